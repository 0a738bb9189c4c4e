/- Net25. (Put together by merge28.py.) -/
import Derived.Test.YtlceembcehokoaaNs2
import Derived.Test.YtlceembcehokoaaNs4
namespace Go.Proofs.Ytlceembcehokoaa
open Go.RowKit
set_option maxRecDepth 100000

theorem push0 {w0 w Z w5 : World} {F : Nat → Prop} {r : Nat} {v u v5 : Value} {q : List Pq} {C : Int → Int → Bool} {n : Nat} {xs : List Value} (h : IsR w0 F r v u q C w) (K : Fresh w Z) (hf : Frm (fun k => v.ownBlock = some k) Z w5)
    (hs : Sl w5 w0.heap.size 45 3 v5 n xs) (ha : v5.ownBlock = v.ownBlock ∨ v5.ownBlock = some Z.heap.size) :
    RBlk (w5.setCell ⟨r, 0, none⟩ v5) r v5 u C ∧ Sl (w5.setCell ⟨r, 0, none⟩ v5) w0.heap.size 45 3 v5 n xs ∧ Sl (w5.setCell ⟨r, 0, none⟩ v5) w0.heap.size 4 1 u q.length (q.map dcell) ∧ Frm (fun k => k = r ∨ v.ownBlock = some k) w (w5.setCell ⟨r, 0, none⟩ v5) ∧
      (∀ k, v5.ownBlock = some k → F k ∨ w.heap.size ≤ k) ∧ w5.cell? ⟨r, 0, none⟩ = some v ∧ w5.frozen? ⟨r, 0, none⟩ = false := by
  have hz := h.fresh K
  have hb5 : RBlk w5 r v u C := hz.blk.frm hf (fun e => hz.blk.apart hz.sl (by decide) e)
  have hd5 := hz.bad.frm hf (fun k hk e => Rc.sl_apart hz.bad hz.sl (by decide) k hk e)
  have F2 : Frm (fun k => k = r) w5 (w5.setCell ⟨r, 0, none⟩ v5) := (Frm.refl (fun k => k = r) w5).setCell (p := ⟨r, 0, none⟩) (fun _ => rfl) v5
  refine ⟨hb5.set0 v5, hs.frm F2 (fun k hk e => by subst e; exact hb5.apart hs (by decide) hk), hd5.frm F2 (fun k hk e => by subst e; exact hb5.apart hd5 (by decide) hk), ((K.mono (fun _ _ f => f.elim)).trans' hf (fun k _ e => .inr e)).trans' F2 (fun k _ e => .inl e), fun k hk => ?_, hb5.cell0, hb5.frozen 0⟩
  rcases ha with e | e
  · exact .inl (h.fv k (by rw [← e]; exact hk))
  · rw [e] at hk
    have := Option.some.inj hk
    have := K.size
    exact .inr (by omega)
theorem push1 {w0 w Y Z w5 : World} {F : Nat → Prop} {r : Nat} {v u v' u' : Value} {q : List Pq} {C : Int → Int → Bool} {x t : Int} {bs : List UInt8} {a : Value} (h : IsR w0 F r v u q C w) (KY : Frm (fun k => k = r ∨ v.ownBlock = some k) w Y) (hb : RBlk Y r v' u C)
    (hs : Sl Y w0.heap.size 45 3 v' (q.length + 1) (q.flatMap rcells ++ [.int .i64 x, .int .i64 t, a])) (hd : Sl Y w0.heap.size 4 1 u q.length (q.map dcell)) (ha : Sl Y w.heap.size 5 1 a bs.length (bs.map bv)) (hv : ∀ k, v'.ownBlock = some k → F k ∨ w.heap.size ≤ k)
    (K : Fresh Y Z) (hf : Frm (fun k => u.ownBlock = some k) Z w5) (hs5 : Sl w5 w0.heap.size 4 1 u' (q.length + 1) (q.map dcell ++ [.bool false])) (hu : u'.ownBlock = u.ownBlock ∨ u'.ownBlock = some Z.heap.size) :
    StepR w0 F r (q.map Pq.a ++ [⟨x, t, bs, false⟩]) C w (w5.setCell ⟨r, 1, none⟩ u') ∧ w5.cell? ⟨r, 1, none⟩ = some u ∧ w5.frozen? ⟨r, 1, none⟩ = false := by
  have hbz := hb.frm K (fun f => f)
  have hdz := hd.fresh K
  have hb5 : RBlk w5 r v' u C := hbz.frm hf (fun e => hbz.apart hdz (by decide) e)
  have F2 : Frm (fun k => k = r) w5 (w5.setCell ⟨r, 1, none⟩ u') := (Frm.refl (fun k => k = r) w5).setCell (p := ⟨r, 1, none⟩) (fun _ => rfl) u'
  have hsz := (hs.fresh K).frm hf (fun k hk e => Rc.sl_apart (hs.fresh K) hdz (by decide) k hk e)
  have haz := (ha.fresh K).frm hf (fun k hk e => Rc.sl_apart (ha.fresh K) hdz (by decide) k hk e)
  have hw0 := h.frm.size
  have KT : Frm (fun k => k = r ∨ v.ownBlock = some k ∨ u.ownBlock = some k) w (w5.setCell ⟨r, 1, none⟩ u') := (((KY.mono (fun k _ e => e.elim .inl (fun e => .inr (.inl e)))).trans' (K.mono (T := fun _ => False) (fun _ _ f => f)) (fun _ _ f => f.elim)).trans' hf (fun k _ e => .inr (.inr e))).trans' F2 (fun k _ e => .inl e)
  have sz := hb5.apart hsz (by decide)
  refine ⟨?_, hb5.cell1, hb5.frozen 1⟩
  have := h.remake (q' := q ++ [⟨⟨x, t, bs, false⟩, a⟩]) (v' := v') (u' := u') (KT.mono (fun k _ e => by
      rcases e with rfl | e | e
      · exact h.fb
      · exact h.fv k e
      · exact h.fu k e)) (hb5.set1 u')
    (by rw [List.length_append, List.flatMap_append]; exact hsz.frm F2 (fun k hk e => by subst e; exact sz hk))
    (by rw [List.length_append, List.map_append]; exact hs5.frm F2 (fun k hk e => by subst e; exact hb5.apart hs5 (by decide) hk))
    (fun p hp => by
      rcases List.mem_append.1 hp with hp | hp
      · refine (h.own p hp).frm KT (fun k hk e => ?_)
        rcases e with rfl | e | e
        · exact h.blk.apart (h.own p hp) (by decide) hk
        · exact Rc.sl_apart (h.own p hp) h.sl (by decide) k hk e
        · exact Rc.sl_apart (h.own p hp) h.bad (by decide) k hk e
      · rw [List.mem_singleton] at hp
        subst hp
        exact (haz.frm F2 (fun k hk e => by subst e; exact hb5.apart haz (by decide) hk)).less hw0)
    (by
      rw [List.pairwise_append]
      refine ⟨h.sep, List.pairwise_singleton _ _, fun p hp p' hp' k h1 h2 => ?_⟩
      rw [List.mem_singleton] at hp'
      subst hp'
      have := (h.low k (h.fo p hp k h1)).2
      have := (ha.lt k h2).1
      omega)
    hv
    (fun k hk => by
      rcases hu with e | e
      · exact .inl (h.fu k (by rw [← e]; exact hk))
      · rw [e] at hk
        have := Option.some.inj hk
        have := K.size
        have := KY.size
        exact .inr (by omega))
    (fun p hp k hk => by
      rcases List.mem_append.1 hp with hp | hp
      · exact .inl (h.fo p hp k hk)
      · rw [List.mem_singleton] at hp
        subst hp
        exact .inr (ha.lt k hk).1)
  rwa [List.map_append] at this
def RSend (w0 : World) (F : Nat → Prop) (r : Nat) (l : List Ab) (x t : Int) (bs : List UInt8) (C : Int → Int → Bool) (w : World) (e : Ending) (w' : World) : Prop :=
  e = .returned (.bool (sendOk C x t bs)) ∧ StepR w0 F r (sendL C x t bs l) C w w'
set_option maxHeartbeats 16000000 in
theorem refSend_any (w0 w : World) (F : Nat → Prop) (r : Nat) (l : List Ab) (C : Int → Int → Bool) (h : IsRd w0 F r l C w) (hl : l.length ≤ 1000) (x t : Int)
    (AB : Option Addr) (cb : Nat) (bs : List UInt8) (hr : Rd w w.heap.size AB (bs.map bv)) (hbl : bs.length ≤ 100000) :
    Calls Try.prog 23 #[.pointer (some ⟨r, 0, none⟩), .agg #[.int .i64 x, .int .i64 t, .slice AB bs.length cb]] w fun e w' => RSend w0 F r l x t bs C w e w' := by
  obtain ⟨i0, hi, hz0, hz1, hz2⟩ := info_parts info_u8
  obtain ⟨j0, hj, hy0, hy1, hy2⟩ := info_parts info_p3
  obtain ⟨k0, hk, hx0, hx1, hx2⟩ := info_parts info_bo
  obtain ⟨W, hW⟩ : ∃ W, w.alloc (.cells #[.int .i64 x, .int .i64 t, .slice AB bs.length cb] 45) = W := ⟨_, rfl⟩
  have FW : Fresh w W := by rw [← hW]; exact (Frm.refl _ w).alloc _
  have BP : Hid (Blk W w.heap.size 45 #[.int .i64 x, .int .i64 t, .slice AB bs.length cb]) := Lib.hid (by rw [← hW]; exact Blk.new w _ _)
  have HI := Lib.hid h
  obtain ⟨v, u, q, rfl, hq⟩ := h
  rw [List.length_map] at hl
  obtain ⟨A, cap, rfl, hcl, hcm, _⟩ := hq.sl.shape
  obtain ⟨A', cap', rfl, hcl', hcm', _⟩ := hq.bad.shape
  have HR := Lib.hid hq
  have HFW := Lib.hid FW
  have HRB := Lib.hid ((hr.fresh (Nat.le_refl _) FW).more FW.size)
  have hbW := hq.blk.frm FW (fun f => f)
  have HBW := Lib.hid hbW
  have b0 : W.cell? ⟨w.heap.size, 0, none⟩ = some (.int .i64 x) := BP.out.cell 0
  have b1 : W.cell? ⟨w.heap.size, 1, none⟩ = some (.int .i64 t) := BP.out.cell 1
  have b2 : W.cell? ⟨w.heap.size, 2, none⟩ = some (.slice AB bs.length cb) := BP.out.cell 2
  have b3 : W.cell? ⟨r, 0, none⟩ = some (.slice A q.length cap) := hbW.cell0
  have hge : ¬ (4096 : Int) ≤ (q.length : Int) := by omega
  have hgd : decide ((4096 : Int) ≤ (q.length : Int)) = false := by simp; omega
  unfold RSend
  clear hq FW hbW hr
  by_cases hx : 1 ≤ x ∧ x ≤ 15
  · by_cases ht : 1 ≤ t ∧ t ≤ 15
    · obtain ⟨a, rfl⟩ : ∃ a : Nat, x = (a : Int) := ⟨x.toNat, by omega⟩
      obtain ⟨b, rfl⟩ : ∃ b : Nat, t = (b : Int) := ⟨t.toNat, by omega⟩
      obtain ⟨x1, x2⟩ := hx
      obtain ⟨t1, t2⟩ := ht
      have g1 : (0 : Int) ≤ (a : Int) := by omega
      have g2 : (a : Int) < 16 := by omega
      have g3 : (0 : Int) ≤ (b : Int) := by omega
      have g4 : (b : Int) < 16 := by omega
      have g5 : a < 16 := by omega
      have g6 : b < 16 := by omega
      by_cases hb7 : bs.length ≤ 70000
      · have hbi : ¬ (70000 : Int) < (bs.length : Int) := by omega
        have hbd : decide ((70000 : Int) < (bs.length : Int)) = false := by simp; omega
        have hbn : decide (70000 < bs.length) = false := by simp; omega
        have b4 : W.cell? ⟨r, 2 + a * 16 + b, none⟩ = some (.bool (C a b)) := HBW.out.cut (by omega) (by omega)
        cases hC : C a b with
        | false =>
          rw [hC] at b4
          have HO := Lib.hid (sendOk_yes ⟨x1, x2⟩ ⟨t1, t2⟩ hb7 hC)
          unfold sendL
          simp only [if_pos HO.out]
          rw [HO.out]
          clear hC
          go_enter Try.func23, Try.ntmps23
          go_wp2_with fail
          refine (refNode_yes a x1 x2 _).mono ?_
          rintro e w' ⟨rfl, hw'⟩
          rw [hw']
          clear hw' w'
          go_wp2_with fail
          refine (refNode_yes b t1 t2 _).mono ?_
          rintro e w' ⟨rfl, hw'⟩
          rw [hw']
          clear hw' w'
          go_wp2_with fail
          go_quiet (fail)
          rename_i nq
          have F2 : Fresh W (W.drewN nq) := (Frm.refl _ W).drewN nq
          obtain ⟨W2, hW2⟩ : ∃ W2, W.drewN nq = W2 := ⟨_, rfl⟩
          rw [hW2] at F2 ⊢
          have BQ := Lib.hid (BP.out.frm F2 (fun f => f))
          have HF2 := Lib.hid F2
          clear hW2 hW F2 b0 b1 b2 b3 b4
          have S0 : Hid (Sl (W2.alloc (.cells #[] 5)) W2.heap.size 5 1 (.slice (some ⟨W2.heap.size, 0, none⟩) 0 0) 0 []) := Lib.hid (sl_new W2 _ [] _ (Nat.le_refl _) (by simp [maxLen]))
          have R1 := Lib.hid (((HRB.out.fresh (Nat.le_refl _) HF2.out).more HF2.out.size).alloc (Nat.le_refl _) (.cells #[] 5))
          have e2 : (W2.alloc (.cells #[] 5)).cell? ⟨w.heap.size, 2, none⟩ = some (.slice AB bs.length cb) := (BQ.out.alloc _).cell 2
          go_wp2_with (at_builtin; refine wpList_append_sl _ rfl (.tmp 45) (.tmp 47) _ rfl W2.heap.size 5 i0 _ 1 1 Try.underlying26 hi hz0 hz1 hz2 rfl (by omega) _ _ _ rfl S0.out _ _ _ _ _ rfl (by rw [List.length_map, Nat.mul_one]) R1.out (bv_one _) (by unfold maxLen; omega) (by omega) (by simp) ?_; intro v4 w4 hs1 hf1 ha1; rw [Nat.zero_add, List.nil_append] at hs1; have F4 : Fresh W2 w4 := ((Frm.refl _ W2).alloc _).trans' hf1 (fun i hi hk => by have := own_at hk; omega); obtain ⟨A4, c4, rfl, _⟩ := hs1.shape; have b4 := BQ.out.frm F4 (fun f => f); have u2 : w4.cell? ⟨w.heap.size, 2, none⟩ = some (.slice AB bs.length cb) := b4.cell 2; have t2' : w4.frozen? ⟨w.heap.size, 2, none⟩ = false := b4.frozen 2; have HB4 := Lib.hid b4; have HS4 := Lib.hid hs1; have HF4 := Lib.hid F4; clear b4 hs1 hf1 ha1 F4 e2)
          obtain ⟨Z, hZ⟩ : ∃ Z, w4.setCell ⟨w.heap.size, 2, none⟩ (.slice A4 bs.length c4) = Z := ⟨_, rfl⟩
          rw [hZ]
          have bz : Blk Z w.heap.size 45 #[.int .i64 a, .int .i64 b, .slice A4 bs.length c4] := by rw [← hZ]; exact HB4.out.set 2 _
          have FZ : Frm (fun k => k = w.heap.size) w4 Z := by rw [← hZ]; exact (Frm.refl (fun k => k = w.heap.size) w4).setCell (p := ⟨w.heap.size, 2, none⟩) (fun _ => rfl) _
          have HWZ : Hid (Fresh w Z) := Lib.hid (((HFW.out.trans HF2.out).trans HF4.out).trans' FZ (fun k hk e => by omega))
          have hlt : w.heap.size < W2.heap.size := BQ.out.lt
          have HAZ : Hid (Sl Z w.heap.size 5 1 (.slice A4 bs.length c4) bs.length (bs.map bv)) := Lib.hid ((HS4.out.frm FZ (fun k hk e => by have := (HS4.out.lt k hk).1; omega)).less (by omega))
          have hbz := HR.out.blk.frm HWZ.out (fun f => f)
          have p0 : Z.drew.cell? ⟨w.heap.size, 0, none⟩ = some (.int .i64 a) := bz.cell 0
          have p1 : Z.drew.cell? ⟨w.heap.size, 1, none⟩ = some (.int .i64 b) := bz.cell 1
          have p2 : Z.drew.cell? ⟨w.heap.size, 2, none⟩ = some (.slice A4 bs.length c4) := bz.cell 2
          have p3 : Z.drew.cell? ⟨r, 0, none⟩ = some (.slice A q.length cap) := hbz.cell0
          have p4 : (Z.alloc (.cells #[.int .i64 a, .int .i64 b, .slice A4 bs.length c4] 45)).drew.cell? ⟨r, 0, none⟩ = some (.slice A q.length cap) := (hbz.frm ((Frm.refl (fun _ => False) Z).alloc _) (fun f => f)).cell0
          have HSZ : Hid (Sl (Z.alloc (.cells #[.int .i64 a, .int .i64 b, .slice A4 bs.length c4] 45)).drew w0.heap.size 45 3 (.slice A q.length cap) q.length (q.flatMap rcells)) := Lib.hid (((HR.out.sl.fresh HWZ.out).alloc _).drew)
          have HRN := Lib.hid ((rd_new Z [Value.int .i64 a, .int .i64 b, .slice A4 bs.length c4] 45).drew)
          have HON : Hid (∀ u ∈ [Value.int .i64 a, Value.int .i64 b, Value.slice A4 bs.length c4], u.oneCell' = true) := Lib.hid (by intro u hu; simp only [List.mem_cons, List.not_mem_nil, or_false] at hu; rcases hu with rfl | rfl | rfl <;> rfl)
          have HZS : Hid (w0.heap.size ≤ (Z.alloc (.cells #[.int .i64 a, .int .i64 b, .slice A4 bs.length c4] 45)).drew.heap.size) := Lib.hid (((HR.out.frm.trans HWZ.out).alloc _).drew.size)
          have HZF : Hid (Fresh w (Z.alloc (.cells #[.int .i64 a, .int .i64 b, .slice A4 bs.length c4] 45)).drew) := Lib.hid ((HWZ.out.alloc _).drew)
          have HAZ2 : Hid (Sl (Z.alloc (.cells #[.int .i64 a, .int .i64 b, .slice A4 bs.length c4] 45)).drew w.heap.size 5 1 (.slice A4 bs.length c4) bs.length (bs.map bv)) := Lib.hid ((HAZ.out.alloc _).drew)
          clear hZ bz FZ hbz u2 t2' hlt
          go_region_law (refine step_append_sl (by rfl) (.tmp 54) (.tmp 56) _ (by rfl) w0.heap.size 45 j0 _ 3 40 Try.underlying56 hj hy0 hy1 hy2 rfl (by omega) (.slice A q.length cap) q.length (q.flatMap rcells) (by simp [Act.eval, Act.put]) HSZ.out _ (some ⟨Z.heap.size, 0, none⟩) 1 1 [.int .i64 a, .int .i64 b, .slice A4 bs.length c4] (by simp [Act.eval, Act.put]) (by rfl) HRN.out HON.out (by unfold maxLen; omega) (by omega) HZS.out ?_; intro v5 w5 hs5 hf5 ha5; have HP := Lib.hid (push0 HR.out HZF.out hf5 hs5 ha5); have HA5 := Lib.hid (HAZ2.out.frm hf5 (fun k hk e => Rc.sl_apart HAZ2.out HSZ.out (by decide) k hk e)); obtain ⟨A5, cp5, rfl, _⟩ := hs5.shape; have c5 := HP.out.2.2.2.2.2.1; have z5 := HP.out.2.2.2.2.2.2; clear hs5 hf5 ha5)
          all_goals (
            obtain ⟨Y, hY⟩ : ∃ Y, w5.setCell ⟨r, 0, none⟩ (.slice A5 (q.length + 1) cp5) = Y := ⟨_, rfl⟩
            have HPY := Lib.hid HP.out
            rw [hY] at HPY
            have HAY : Hid (Sl Y w.heap.size 5 1 (.slice A4 bs.length c4) bs.length (bs.map bv)) := Lib.hid (by
              have F2 : Frm (fun k => k = r) w5 Y := by rw [← hY]; exact (Frm.refl (fun k => k = r) w5).setCell (p := ⟨r, 0, none⟩) (fun _ => rfl) _
              exact HA5.out.frm F2 (fun k hk e => by subst e; have := (HA5.out.lt _ hk).1; have := HR.out.blk.lt; omega))
            clear HP
            have m1 : Y.cell? ⟨r, 1, none⟩ = some (.slice A' q.length cap') := HPY.out.1.cell1
            have HSY : Hid (Sl (Y.alloc (.cells #[.bool false] 4)) w0.heap.size 4 1 (.slice A' q.length cap') q.length (q.map dcell)) := Lib.hid (HPY.out.2.2.1.alloc _)
            have HRY := Lib.hid (rd_new Y [Value.bool false] 4)
            have HBO : Hid (∀ u ∈ [Value.bool false], u.oneCell' = true) := Lib.hid (by intro u hu; rw [List.mem_singleton] at hu; subst hu; rfl)
            have HYS : Hid (w0.heap.size ≤ (Y.alloc (.cells #[.bool false] 4)).heap.size) := Lib.hid (by have := HR.out.frm.size; have := HPY.out.2.2.2.1.size; rw [World.size_alloc]; omega)
            have HPU : Hid (∀ (v6 : Value) (w6 : World), Sl w6 w0.heap.size 4 1 v6 (q.length + 1) (q.map dcell ++ [.bool false]) → Frm (fun k => (Value.slice A' q.length cap').ownBlock = some k) (Y.alloc (.cells #[.bool false] 4)) w6 → (v6.ownBlock = (Value.slice A' q.length cap').ownBlock ∨ v6.ownBlock = some (Y.alloc (.cells #[.bool false] 4)).heap.size) →
                StepR w0 F r (q.map Pq.a ++ [⟨a, b, bs, false⟩]) C w (w6.setCell ⟨r, 1, none⟩ v6) ∧ w6.cell? ⟨r, 1, none⟩ = some (.slice A' q.length cap') ∧ w6.frozen? ⟨r, 1, none⟩ = false) := Lib.hid (fun v6 w6 hs6 hf6 ha6 => push1 HR.out HPY.out.2.2.2.1 HPY.out.1 HPY.out.2.1 HPY.out.2.2.1 HAY.out HPY.out.2.2.2.2.1 ((Frm.refl _ Y).alloc _) hf6 hs6 ha6)
            go_wp2_with (at_builtin; (refine wpList_append_sl _ rfl (.tmp 64) (.tmp 65) _ rfl w0.heap.size 4 k0 _ 1 1 Try.underlying57 hk hx0 hx1 hx2 rfl (by omega) _ _ _ rfl HSY.out _ _ 1 1 [.bool false] rfl rfl HRY.out HBO.out (by unfold maxLen; omega) (by omega) HYS.out ?_; intro v6 w6 hs6 hf6 ha6; have HQ := Lib.hid (HPU.out _ _ hs6 hf6 ha6); obtain ⟨A6, cp6, rfl, _⟩ := hs6.shape; have c6 := HQ.out.2.1; have z6 := HQ.out.2.2; clear hs6 hf6 ha6 m1))
            go_ret
            exact ⟨by first | rfl | simp, HQ.out.1⟩)
        | true =>
          rw [hC] at b4
          have HO := Lib.hid (sendOk_cut (x := a) (t := b) (bs := bs) hC)
          rw [HO.out, sendL_no HO.out]
          clear hC
          go_enter Try.func23, Try.ntmps23
          go_wp2_with fail
          refine (refNode_yes a x1 x2 _).mono ?_
          rintro e w' ⟨rfl, hw'⟩
          rw [hw']
          clear hw' w'
          go_wp2_with fail
          refine (refNode_yes b t1 t2 _).mono ?_
          rintro e w' ⟨rfl, hw'⟩
          rw [hw']
          clear hw' w'
          go_wp2_with fail
          go_quiet (fail)
          rename_i nq
          have HF2 : Hid (Fresh w (W.drewN nq)) := Lib.hid (HFW.out.drewN nq)
          go_wp2_with fail
          go_ret
          exact ⟨by first | rfl | simp, .still HI.out HF2.out⟩
      · have HO := Lib.hid (sendOk_no (C := C) (x := a) (t := b) (bs := bs) (fun e => hb7 e.2.2))
        rw [HO.out, sendL_no HO.out]
        have hbi : (70000 : Int) < (bs.length : Int) := by omega
        have hbd : decide ((70000 : Int) < (bs.length : Int)) = true := by simp; omega
        have hbn : decide (70000 < bs.length) = true := by simp; omega
        go_enter Try.func23, Try.ntmps23
        go_wp2_with fail
        refine (refNode_yes a x1 x2 _).mono ?_
        rintro e w' ⟨rfl, hw'⟩
        rw [hw']
        clear hw' w'
        go_wp2_with fail
        refine (refNode_yes b t1 t2 _).mono ?_
        rintro e w' ⟨rfl, hw'⟩
        rw [hw']
        clear hw' w'
        go_wp2_with fail
        go_quiet (fail)
        rename_i nq
        have HF2 : Hid (Fresh w (W.drewN nq)) := Lib.hid (HFW.out.drewN nq)
        go_wp2_with fail
        go_ret
        exact ⟨by first | rfl | simp, .still HI.out HF2.out⟩
    · have HO := Lib.hid (sendOk_no (C := C) (x := x) (t := t) (bs := bs) (fun e => ht e.2.1))
      rw [HO.out, sendL_no HO.out]
      obtain ⟨x1, x2⟩ := hx
      go_enter Try.func23, Try.ntmps23
      go_wp2_with fail
      refine (refNode_yes x x1 x2 _).mono ?_
      rintro e w' ⟨rfl, hw'⟩
      rw [hw']
      clear hw' w'
      go_wp2_with fail
      refine (refNode_no t ht _).mono ?_
      rintro e w' ⟨rfl, hw'⟩
      rw [hw']
      clear hw' w'
      go_wp2_with fail
      go_quiet (fail)
      rename_i nq
      have HF2 : Hid (Fresh w (W.drewN nq)) := Lib.hid (HFW.out.drewN nq)
      go_wp2_with fail
      go_ret
      exact ⟨by first | rfl | simp, .still HI.out HF2.out⟩
  · have HO := Lib.hid (sendOk_no (C := C) (x := x) (t := t) (bs := bs) (fun e => hx e.1))
    rw [HO.out, sendL_no HO.out]
    have HND : Hid (∀ w', Calls Try.prog 70 #[.int .i64 t] w' fun e w2 => ∃ b, e = .returned (.bool b) ∧ w2 = w') := Lib.hid (fun w' => by
      by_cases ht : 1 ≤ t ∧ t ≤ 15
      · exact (refNode_yes t ht.1 ht.2 w').mono (fun e w2 h => ⟨_, h⟩)
      · exact (refNode_no t ht w').mono (fun e w2 h => ⟨_, h⟩))
    go_enter Try.func23, Try.ntmps23
    go_wp2_with fail
    refine (refNode_no x hx _).mono ?_
    rintro e w' ⟨rfl, hw'⟩
    rw [hw']
    clear hw' w'
    go_wp2_with fail
    refine (HND.out _).mono ?_
    rintro e w' ⟨bt, rfl, hw'⟩
    rw [hw']
    clear hw' w'
    go_wp2_with fail
    go_quiet (fail)
    rename_i nq
    have HF2 : Hid (Fresh w (W.drewN nq)) := Lib.hid (HFW.out.drewN nq)
    go_wp2_with fail
    go_ret
    exact ⟨by first | rfl | simp, .still HI.out HF2.out⟩
end Go.Proofs.Ytlceembcehokoaa

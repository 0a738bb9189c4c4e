/- Net24. (Put together by merge28.py.) -/
import Derived.Test.YtlceembcehokoaaNs1
import Derived.Test.YtlceembcehokoaaNs3
import Derived.Deep.Cut
namespace Go.Proofs.Ytlceembcehokoaa
open Go.RowKit
set_option maxRecDepth 100000

theorem info_p3 : (Try.prog.info? 45).map (fun i => (i.zero, i.size, i.bytes)) = some (some (.agg #[.int .i64 0, .int .i64 0, .slice none 0 0]), 3, 40) := by kernel_rfl
theorem info_bo : (Try.prog.info? 4).map (fun i => (i.zero, i.size, i.bytes)) = some (some (.bool false), 1, 1) := by kernel_rfl
theorem sl_zeroG (w : World) (B : Nat) (e : TypeId) (size : Nat) (hB : B ≤ w.heap.size) : Sl (w.alloc (.cells #[] e)).drew B e size (.slice (some ⟨w.heap.size, 0, none⟩) 0 0) 0 [] :=
  ⟨by simp, .inr ⟨w.heap.size, 0, 0, #[], rfl, hB, Blk.new w e #[], Nat.le_refl _, by simp [maxLen], by simp, fun j u hu => by simp at hu⟩⟩
theorem rd_dropG {w : World} {B g o : Nat} {xs : List Value} (k : Nat) (h : Rd w B (some ⟨g, o, none⟩) xs) : Rd w B (some ⟨g, o + k, none⟩) (xs.drop k) := fun hx => by
  obtain ⟨b, o', hA, hb, hc⟩ := h (fun e => by rw [e] at hx; simp at hx)
  injection hA with hA
  injection hA with h1 h2
  subst h1 h2
  exact ⟨_, _, rfl, hb, fun j u hu => by rw [List.getElem?_drop] at hu; have := hc _ u hu; rwa [← Nat.add_assoc] at this⟩
theorem put0 {w wc : World} {r B z n : Nat} {v u v' : Value} {C : Int → Int → Bool} {e : TypeId} {xs : List Value} (h : RBlk w r v u C) (K : Fresh w wc) (hs : Sl wc B e z v' n xs) (hne : e ≠ 61) :
    RBlk (wc.setCell ⟨r, 0, none⟩ v') r v' u C ∧ Sl (wc.setCell ⟨r, 0, none⟩ v') B e z v' n xs ∧ Frm (fun k => k = r) w (wc.setCell ⟨r, 0, none⟩ v') ∧ wc.cell? ⟨r, 0, none⟩ = some v ∧ wc.frozen? ⟨r, 0, none⟩ = false := by
  have hc := h.frm K (fun f => f)
  have F2 : Frm (fun k => k = r) wc (wc.setCell ⟨r, 0, none⟩ v') := (Frm.refl (fun k => k = r) wc).setCell (p := ⟨r, 0, none⟩) (fun _ => rfl) v'
  exact ⟨hc.set0 v', hs.frm F2 (fun k hk e => by subst e; exact hc.apart hs hne hk), (K.mono (fun _ _ f => f.elim)).trans' F2 (fun k _ e => e), hc.cell0, hc.frozen 0⟩
theorem put1 {w wc : World} {r B z n : Nat} {v u v' : Value} {C : Int → Int → Bool} {e : TypeId} {xs : List Value} (h : RBlk w r v u C) (K : Fresh w wc) (hs : Sl wc B e z v' n xs) (hne : e ≠ 61) :
    RBlk (wc.setCell ⟨r, 1, none⟩ v') r v v' C ∧ Sl (wc.setCell ⟨r, 1, none⟩ v') B e z v' n xs ∧ Frm (fun k => k = r) w (wc.setCell ⟨r, 1, none⟩ v') ∧ wc.cell? ⟨r, 1, none⟩ = some u ∧ wc.frozen? ⟨r, 1, none⟩ = false := by
  have hc := h.frm K (fun f => f)
  have F2 : Frm (fun k => k = r) wc (wc.setCell ⟨r, 1, none⟩ v') := (Frm.refl (fun k => k = r) wc).setCell (p := ⟨r, 1, none⟩) (fun _ => rfl) v'
  exact ⟨hc.set1 v', hs.frm F2 (fun k hk e => by subst e; exact hc.apart hs hne hk), (K.mono (fun _ _ f => f.elim)).trans' F2 (fun k _ e => e), hc.cell1, hc.frozen 1⟩
theorem refDrop_put {w0 w Z : World} {F : Nat → Prop} {r : Nat} {v u v3 v5 : Value} {q : List Pq} {C : Int → Int → Bool} (h : IsR w0 F r v u q C w) {n : Nat} (hn : n < q.length) (K : Frm (fun k => k = r) w Z) (hb : RBlk Z r v3 v5 C)
    (hs : Sl Z w0.heap.size 45 3 v3 (q.length - 1) ([] ++ (q.take n).flatMap rcells ++ (q.drop (n + 1)).flatMap rcells)) (hd : Sl Z w0.heap.size 4 1 v5 (q.length - 1) ([] ++ (q.take n).map dcell ++ (q.drop (n + 1)).map dcell))
    (hv : ∀ k, v3.ownBlock = some k → w.heap.size ≤ k) (hu : ∀ k, v5.ownBlock = some k → w.heap.size ≤ k) : StepR w0 F r (dropL (q.map Pq.a) n) C w Z := by
  rw [List.nil_append, ← List.flatMap_append] at hs
  rw [List.nil_append, ← List.map_append] at hd
  have hmem : ∀ p ∈ q.take n ++ q.drop (n + 1), p ∈ q := fun p hp => by
    rcases List.mem_append.1 hp with hp | hp
    · exact List.mem_of_mem_take hp
    · exact List.mem_of_mem_drop hp
  have hsub : (q.take n ++ q.drop (n + 1)).Sublist q := by
    conv => rhs; rw [← List.take_append_drop n q]
    refine List.Sublist.append (List.Sublist.refl _) ?_
    rw [← List.drop_drop]
    exact List.drop_sublist _ _
  have hlen : (q.take n ++ q.drop (n + 1)).length = q.length - 1 := by rw [List.length_append, List.length_take, List.length_drop]; omega
  rw [← hlen] at hs hd
  have := h.remake (q' := q.take n ++ q.drop (n + 1)) (K.mono (fun k _ e => by subst e; exact h.fb)) hb hs hd (fun p hp => (h.own p (hmem p hp)).frm K (fun k hk e => by subst e; exact h.blk.apart (h.own p (hmem p hp)) (by decide) hk)) (h.sep.sublist hsub) (fun k hk => .inr (hv k hk)) (fun k hk => .inr (hu k hk)) (fun p hp k hk => .inl (h.fo p (hmem p hp) k hk))
  rw [dropL_yes (by simpa using hn), ← List.map_take, ← List.map_drop, ← List.map_append]
  exact this
def RLose (w0 : World) (F : Nat → Prop) (r : Nat) (l : List Ab) (k : Int) (C : Int → Int → Bool) (w : World) (e : Ending) (w' : World) : Prop :=
  e = .returned (.int .i64 (if (pickL l k).isSome then 0 else 2)) ∧ StepR w0 F r (dropL l k) C w w'
set_option maxHeartbeats 16000000 in
theorem refLose_any (w0 w : World) (F : Nat → Prop) (r : Nat) (l : List Ab) (C : Int → Int → Bool) (h : IsRd w0 F r l C w) (hl : l.length ≤ 1000) (k : Int) :
    Calls Try.prog 29 #[.pointer (some ⟨r, 0, none⟩), .int .i64 k] w fun e w' => RLose w0 F r l k C w e w' := by
  obtain ⟨i0, hi, hz0, hz1, hz2⟩ := info_parts info_p3
  obtain ⟨j0, hj, hy0, hy1, hy2⟩ := info_parts info_bo
  have HI := Lib.hid h
  obtain ⟨v, u, q, rfl, hq⟩ := h
  rw [List.length_map] at hl
  unfold RLose
  by_cases hk : 0 ≤ k ∧ k < (q.length : Int)
  · obtain ⟨n, rfl⟩ : ∃ n : Nat, k = (n : Int) := ⟨k.toNat, by omega⟩
    have hn : n < q.length := by omega
    rw [pickL_yes (l := q.map Pq.a) (by simpa using hn)]
    have HR := Lib.hid hq
    have HN := Lib.hid hn
    obtain ⟨g, o, cap, rfl, _, _, hnc, hcm⟩ := hq.sl.head (by omega)
    obtain ⟨g2, o2, cap2, rfl, _, _, hnc2, hcm2⟩ := hq.bad.head (by omega)
    have RB := Lib.hid hq.blk
    have hge := hq.frm.size
    clear hq hk HI
    unfold maxLen at hcm hcm2
    have hp0 : ¬ (n : Int) < 0 := by omega
    have hpn : ¬ (q.length : Int) ≤ (n : Int) := by omega
    have q0 : (0 : Int) ≤ (n : Int) := by omega
    have q1 : (n : Int) ≤ (cap : Int) := by omega
    have q2 : ((n : Int) + 1).toNat = n + 1 := by omega
    have q3 : (0 : Int) ≤ (n : Int) + 1 := by omega
    have q4 : (n : Int) + 1 ≤ (q.length : Int) := by omega
    have q5 : (q.length : Int) ≤ (cap : Int) := by omega
    have q6 : (n : Int) ≤ 1000 := by omega
    have q7 : IntKind.i64.wrap ((n : Int) + 1) = (n : Int) + 1 := IntWalk.i64_in _ (by omega)
    have q8 : (n : Int) ≤ (cap2 : Int) := by omega
    have q9 : (q.length : Int) ≤ (cap2 : Int) := by omega
    have HL1 : Hid (((q.take n).flatMap rcells).length = n * 3) := Lib.hid (by rw [rcells_len, List.length_take, Nat.min_eq_left (by omega)])
    have KL1 : Hid (((q.take n).map dcell).length = n * 1) := Lib.hid (by rw [List.length_map, List.length_take, Nat.min_eq_left (by omega)]; omega)
    have S0 : Hid (Sl (w.alloc (.cells #[] 45)).drew w0.heap.size 45 3 (.slice (some ⟨w.heap.size, 0, none⟩) 0 0) 0 []) := Lib.hid (sl_zeroG w _ _ _ hge)
    have hc1 : (w.alloc (.cells #[] 45)).drew.cell? ⟨r, 0, none⟩ = some (.slice (some ⟨g, o, none⟩) q.length cap) := (RB.out.frm ((Frm.refl (fun _ => False) w).alloc _) (fun f => f)).cell0
    have hc0 : w.drew.cell? ⟨r, 0, none⟩ = some (.slice (some ⟨g, o, none⟩) q.length cap) := RB.out.cell0
    have hcw : w.cell? ⟨r, 0, none⟩ = some (.slice (some ⟨g, o, none⟩) q.length cap) := RB.out.cell0
    have RT : Hid (Rd (w.alloc (.cells #[] 45)).drew w.heap.size (some ⟨g, o, none⟩) ((q.take n).flatMap rcells)) := Lib.hid (by rw [rcells_take]; exact ((HR.out.sl.rd.take _).alloc (Nat.le_refl _) _).drew)
    go_enter Try.func29, Try.ntmps29
    go_upto_region 3 with fail
    go_cut [] from 16 (fun wx => ∃ v3, RBlk wx r v3 (.slice (some ⟨g2, o2, none⟩) q.length cap2) C ∧ Sl wx w0.heap.size 45 3 v3 (q.length - 1) ([] ++ (q.take n).flatMap rcells ++ (q.drop (n + 1)).flatMap rcells) ∧ Frm (fun k => k = r) w wx ∧ ∀ k, v3.ownBlock = some k → w.heap.size ≤ k)
    case first =>
      by_cases hci : cap = n + 1
      · obtain rfl : cap = q.length := by omega
        have HL2 : Hid (((q.drop (n + 1)).flatMap rcells).length = 0 * 3) := Lib.hid (by rw [rcells_len, List.length_drop]; omega)
        have HLEN : Hid (0 + n + 0 = q.length - 1) := Lib.hid (by omega)
        have hci' : n + 1 = q.length := by omega
        have RDD : Hid (∀ w', Fresh w w' → Rd w' w'.heap.size (some ⟨g, o, none⟩) ((q.drop (n + 1)).flatMap rcells)) := Lib.hid (fun w' K => by rw [List.drop_eq_nil_of_le (by omega)]; exact Rd.nil _ _ _)
        clear hci
        go_region_law (first
          | (refine step_append_sl (by rfl) (.tmp 17) (.tmp 23) _ (by rfl) w0.heap.size 45 i0 _ 3 40 Try.underlying56 hi hz0 hz1 hz2 rfl (by omega) (.slice (some ⟨w.heap.size, 0, none⟩) 0 0) 0 [] (by simp [Act.eval, Act.put]) S0.out w.heap.size (some ⟨g, o, none⟩) n q.length ((q.take n).flatMap rcells) (by simp [Act.eval, Act.put]) HL1.out RT.out (rcells_one HR.out (fun p hp => List.mem_of_mem_take hp)) (by unfold maxLen; omega) (by omega) (by simp; omega) ?_; intro v1 wa hs1 hf1 ha1; have HA1 : Hid (Fresh w wa) := Lib.hid (((Frm.refl _ w).alloc _).drew.trans' hf1 (fun i hi hk => by have := own_at hk; omega)); have HS1 := Lib.hid hs1; have hsa := HA1.out.size; have HO1 : Hid (∀ k, v1.ownBlock = some k → w.heap.size ≤ k) := Lib.hid (fun k hk => by rcases ha1 with h | h <;> rw [h] at hk <;> first | (have := own_at hk; omega) | (have := Option.some.inj hk; simp at this; omega)); have hca : wa.cell? ⟨r, 0, none⟩ = some (.slice (some ⟨g, o, none⟩) q.length q.length) := (RB.out.frm HA1.out (fun f => f)).cell0; clear hs1 hf1 ha1)
          | (refine step_append_sl (by rfl) (.tmp 24) (.tmp 31) _ (by rfl) w0.heap.size 45 i0 _ 3 40 Try.underlying56 hi hz0 hz1 hz2 rfl (by omega) v1 (0 + n) _ (by simp [Act.eval, Act.put]) HS1.out wa.heap.size (some ⟨g, o, none⟩) 0 0 ((q.drop (n + 1)).flatMap rcells) (by simp [Act.eval, Act.put]) HL2.out (RDD.out wa HA1.out) (rcells_one HR.out (fun p hp => List.mem_of_mem_drop hp)) (by unfold maxLen; omega) (by omega) (by omega) ?_; intro v3 wc hs3 hf3 ha3; rw [HLEN.out] at hs3; have HC1 : Hid (Fresh w wc) := Lib.hid (HA1.out.trans' hf3 (fun i hi hk => by have := HO1.out _ hk; omega)); have HO3 : Hid (∀ k, v3.ownBlock = some k → w.heap.size ≤ k) := Lib.hid (fun k hk => by rcases ha3 with h | h <;> rw [h] at hk <;> first | exact HO1.out k hk | (have := Option.some.inj hk; omega)); have HPUT := Lib.hid (put0 RB.out HC1.out hs3 (by decide)); obtain ⟨A3, c3, rfl, _⟩ := hs3.shape; have hcc := HPUT.out.2.2.2.1; have hcf := HPUT.out.2.2.2.2; clear hs3 hf3 ha3))
        all_goals (
          go_wp2_with fail
          go_meet
          exact ⟨_, HPUT.out.1, HPUT.out.2.1, HPUT.out.2.2.1, HO3.out⟩)
      · have HL2 : Hid (((q.drop (n + 1)).flatMap rcells).length = (q.length - (n + 1)) * 3) := Lib.hid (by rw [rcells_len, List.length_drop])
        have HLEN : Hid (0 + n + (q.length - (n + 1)) = q.length - 1) := Lib.hid (by omega)
        have RDD : Hid (∀ w', Fresh w w' → Rd w' w'.heap.size (some ⟨g, o + (n + 1) * 3, none⟩) ((q.drop (n + 1)).flatMap rcells)) := Lib.hid (fun w' K => by rw [rcells_drop]; exact rd_dropG ((n + 1) * 3) (HR.out.fresh K).sl.rd)
        go_region_law (first
          | (refine step_append_sl (by rfl) (.tmp 17) (.tmp 23) _ (by rfl) w0.heap.size 45 i0 _ 3 40 Try.underlying56 hi hz0 hz1 hz2 rfl (by omega) (.slice (some ⟨w.heap.size, 0, none⟩) 0 0) 0 [] (by simp [Act.eval, Act.put]) S0.out w.heap.size (some ⟨g, o, none⟩) n cap ((q.take n).flatMap rcells) (by simp [Act.eval, Act.put]) HL1.out RT.out (rcells_one HR.out (fun p hp => List.mem_of_mem_take hp)) (by unfold maxLen; omega) (by omega) (by simp; omega) ?_; intro v1 wa hs1 hf1 ha1; have HA1 : Hid (Fresh w wa) := Lib.hid (((Frm.refl _ w).alloc _).drew.trans' hf1 (fun i hi hk => by have := own_at hk; omega)); have HS1 := Lib.hid hs1; have hsa := HA1.out.size; have HO1 : Hid (∀ k, v1.ownBlock = some k → w.heap.size ≤ k) := Lib.hid (fun k hk => by rcases ha1 with h | h <;> rw [h] at hk <;> first | (have := own_at hk; omega) | (have := Option.some.inj hk; simp at this; omega)); have hca : wa.cell? ⟨r, 0, none⟩ = some (.slice (some ⟨g, o, none⟩) q.length cap) := (RB.out.frm HA1.out (fun f => f)).cell0; clear hs1 hf1 ha1)
          | (refine step_append_sl (by rfl) (.tmp 24) (.tmp 31) _ (by rfl) w0.heap.size 45 i0 _ 3 40 Try.underlying56 hi hz0 hz1 hz2 rfl (by omega) v1 (0 + n) _ (by simp [Act.eval, Act.put]) HS1.out wa.heap.size (some ⟨g, o + (n + 1) * 3, none⟩) (q.length - (n + 1)) (cap - (n + 1)) ((q.drop (n + 1)).flatMap rcells) (by simp [Act.eval, Act.put]) HL2.out (RDD.out wa HA1.out) (rcells_one HR.out (fun p hp => List.mem_of_mem_drop hp)) (by unfold maxLen; omega) (by omega) (by omega) ?_; intro v3 wc hs3 hf3 ha3; rw [HLEN.out] at hs3; have HC1 : Hid (Fresh w wc) := Lib.hid (HA1.out.trans' hf3 (fun i hi hk => by have := HO1.out _ hk; omega)); have HO3 : Hid (∀ k, v3.ownBlock = some k → w.heap.size ≤ k) := Lib.hid (fun k hk => by rcases ha3 with h | h <;> rw [h] at hk <;> first | exact HO1.out k hk | (have := Option.some.inj hk; omega)); have HPUT := Lib.hid (put0 RB.out HC1.out hs3 (by decide)); obtain ⟨A3, c3, rfl, _⟩ := hs3.shape; have hcc := HPUT.out.2.2.2.1; have hcf := HPUT.out.2.2.2.2; clear hs3 hf3 ha3))
        all_goals (
          go_wp2_with fail
          go_meet
          exact ⟨_, HPUT.out.1, HPUT.out.2.1, HPUT.out.2.2.1, HO3.out⟩)
    case rest =>
      obtain ⟨v3, hcut⟩ := hcut
      have HX := Lib.hid hcut
      clear hcut
      obtain ⟨X, hX⟩ : ∃ X, wc = X := ⟨_, rfl⟩
      rw [hX] at HX ⊢
      clear hX
      have RBb := Lib.hid HX.out.1
      have hxs : w.heap.size ≤ X.heap.size := HX.out.2.2.1.size
      have SLb := Lib.hid (HR.out.bad.frm HX.out.2.2.1 (fun k hk e => by subst e; exact HR.out.blk.apart HR.out.bad (by decide) hk))
      have T0 : Hid (Sl (X.alloc (.cells #[] 4)).drew w0.heap.size 4 1 (.slice (some ⟨X.heap.size, 0, none⟩) 0 0) 0 []) := Lib.hid (sl_zeroG X _ _ _ (by omega))
      have kc1 : (X.alloc (.cells #[] 4)).drew.cell? ⟨r, 1, none⟩ = some (.slice (some ⟨g2, o2, none⟩) q.length cap2) := (RBb.out.frm ((Frm.refl (fun _ => False) X).alloc _) (fun f => f)).cell1
      have kc0 : X.drew.cell? ⟨r, 1, none⟩ = some (.slice (some ⟨g2, o2, none⟩) q.length cap2) := RBb.out.cell1
      have ST : Hid (Rd (X.alloc (.cells #[] 4)).drew X.heap.size (some ⟨g2, o2, none⟩) ((q.take n).map dcell)) := Lib.hid (by rw [List.map_take]; exact ((SLb.out.rd.take _).alloc (Nat.le_refl _) _).drew)
      clear hc0 hc1
      go_wp2_with fail
      by_cases hci2 : cap2 = n + 1
      · obtain rfl : cap2 = q.length := by omega
        have hci' : n + 1 = q.length := by omega
        have KL2 : Hid (((q.drop (n + 1)).map dcell).length = 0 * 1) := Lib.hid (by rw [List.length_map, List.length_drop]; omega)
        have HLEN : Hid (0 + n + 0 = q.length - 1) := Lib.hid (by omega)
        have SDD : Hid (∀ w', Fresh X w' → Rd w' w'.heap.size (some ⟨g2, o2, none⟩) ((q.drop (n + 1)).map dcell)) := Lib.hid (fun w' K => by rw [List.drop_eq_nil_of_le (by omega)]; exact Rd.nil _ _ _)
        clear hci2
        go_region_law (first
          | (refine step_append_sl (by rfl) (.tmp 36) (.tmp 42) _ (by rfl) w0.heap.size 4 j0 _ 1 1 Try.underlying57 hj hy0 hy1 hy2 rfl (by omega) (.slice (some ⟨X.heap.size, 0, none⟩) 0 0) 0 [] (by simp [Act.eval, Act.put]) T0.out X.heap.size (some ⟨g2, o2, none⟩) n q.length ((q.take n).map dcell) (by simp [Act.eval, Act.put]) KL1.out ST.out (dcell_one _) (by unfold maxLen; omega) (by omega) (by simp; omega) ?_; intro v1b wab hs1 hf1 ha1; have HA1b : Hid (Fresh X wab) := Lib.hid (((Frm.refl _ X).alloc _).drew.trans' hf1 (fun i hi hk => by have := own_at hk; omega)); have HS1b := Lib.hid hs1; have hsab := HA1b.out.size; have HO1b : Hid (∀ k, v1b.ownBlock = some k → X.heap.size ≤ k) := Lib.hid (fun k hk => by rcases ha1 with h | h <;> rw [h] at hk <;> first | (have := own_at hk; omega) | (have := Option.some.inj hk; simp at this; omega)); have hcab : wab.cell? ⟨r, 1, none⟩ = some (.slice (some ⟨g2, o2, none⟩) q.length q.length) := (RBb.out.frm HA1b.out (fun f => f)).cell1; clear hs1 hf1 ha1)
          | (refine step_append_sl (by rfl) (.tmp 43) (.tmp 50) _ (by rfl) w0.heap.size 4 j0 _ 1 1 Try.underlying57 hj hy0 hy1 hy2 rfl (by omega) v1b (0 + n) _ (by simp [Act.eval, Act.put]) HS1b.out wab.heap.size (some ⟨g2, o2, none⟩) 0 0 ((q.drop (n + 1)).map dcell) (by simp [Act.eval, Act.put]) KL2.out (SDD.out wab HA1b.out) (dcell_one _) (by unfold maxLen; omega) (by omega) (by omega) ?_; intro v3b wcb hs3 hf3 ha3; rw [HLEN.out] at hs3; have HC1b : Hid (Fresh X wcb) := Lib.hid (HA1b.out.trans' hf3 (fun i hi hk => by have := HO1b.out _ hk; omega)); have HO3b : Hid (∀ k, v3b.ownBlock = some k → X.heap.size ≤ k) := Lib.hid (fun k hk => by rcases ha3 with h | h <;> rw [h] at hk <;> first | exact HO1b.out k hk | (have := Option.some.inj hk; omega)); have HPUTb := Lib.hid (put1 RBb.out HC1b.out hs3 (by decide)); obtain ⟨A3b, c3b, rfl, _⟩ := hs3.shape; have hccb := HPUTb.out.2.2.2.1; have hcfb := HPUTb.out.2.2.2.2; clear hs3 hf3 ha3))
        all_goals (
          go_wp2_with fail
          go_ret
          exact ⟨rfl, refDrop_put HR.out HN.out (HX.out.2.2.1.trans' HPUTb.out.2.2.1 (fun k _ e => e)) HPUTb.out.1 (HX.out.2.1.frm HPUTb.out.2.2.1 (fun k hk e => by subst e; exact RBb.out.apart HX.out.2.1 (by decide) hk)) HPUTb.out.2.1 HX.out.2.2.2 (fun k hk => by have := HO3b.out k hk; omega)⟩)
      · have KL2 : Hid (((q.drop (n + 1)).map dcell).length = (q.length - (n + 1)) * 1) := Lib.hid (by rw [List.length_map, List.length_drop]; omega)
        have HLEN : Hid (0 + n + (q.length - (n + 1)) = q.length - 1) := Lib.hid (by omega)
        have SDD : Hid (∀ w', Fresh X w' → Rd w' w'.heap.size (some ⟨g2, o2 + (n + 1), none⟩) ((q.drop (n + 1)).map dcell)) := Lib.hid (fun w' K => by rw [List.map_drop]; exact rd_dropG (n + 1) (SLb.out.fresh K).rd)
        go_region_law (first
          | (refine step_append_sl (by rfl) (.tmp 36) (.tmp 42) _ (by rfl) w0.heap.size 4 j0 _ 1 1 Try.underlying57 hj hy0 hy1 hy2 rfl (by omega) (.slice (some ⟨X.heap.size, 0, none⟩) 0 0) 0 [] (by simp [Act.eval, Act.put]) T0.out X.heap.size (some ⟨g2, o2, none⟩) n cap2 ((q.take n).map dcell) (by simp [Act.eval, Act.put]) KL1.out ST.out (dcell_one _) (by unfold maxLen; omega) (by omega) (by simp; omega) ?_; intro v1b wab hs1 hf1 ha1; have HA1b : Hid (Fresh X wab) := Lib.hid (((Frm.refl _ X).alloc _).drew.trans' hf1 (fun i hi hk => by have := own_at hk; omega)); have HS1b := Lib.hid hs1; have hsab := HA1b.out.size; have HO1b : Hid (∀ k, v1b.ownBlock = some k → X.heap.size ≤ k) := Lib.hid (fun k hk => by rcases ha1 with h | h <;> rw [h] at hk <;> first | (have := own_at hk; omega) | (have := Option.some.inj hk; simp at this; omega)); have hcab : wab.cell? ⟨r, 1, none⟩ = some (.slice (some ⟨g2, o2, none⟩) q.length cap2) := (RBb.out.frm HA1b.out (fun f => f)).cell1; clear hs1 hf1 ha1)
          | (refine step_append_sl (by rfl) (.tmp 43) (.tmp 50) _ (by rfl) w0.heap.size 4 j0 _ 1 1 Try.underlying57 hj hy0 hy1 hy2 rfl (by omega) v1b (0 + n) _ (by simp [Act.eval, Act.put]) HS1b.out wab.heap.size (some ⟨g2, o2 + (n + 1), none⟩) (q.length - (n + 1)) (cap2 - (n + 1)) ((q.drop (n + 1)).map dcell) (by simp [Act.eval, Act.put]) KL2.out (SDD.out wab HA1b.out) (dcell_one _) (by unfold maxLen; omega) (by omega) (by omega) ?_; intro v3b wcb hs3 hf3 ha3; rw [HLEN.out] at hs3; have HC1b : Hid (Fresh X wcb) := Lib.hid (HA1b.out.trans' hf3 (fun i hi hk => by have := HO1b.out _ hk; omega)); have HO3b : Hid (∀ k, v3b.ownBlock = some k → X.heap.size ≤ k) := Lib.hid (fun k hk => by rcases ha3 with h | h <;> rw [h] at hk <;> first | exact HO1b.out k hk | (have := Option.some.inj hk; omega)); have HPUTb := Lib.hid (put1 RBb.out HC1b.out hs3 (by decide)); obtain ⟨A3b, c3b, rfl, _⟩ := hs3.shape; have hccb := HPUTb.out.2.2.2.1; have hcfb := HPUTb.out.2.2.2.2; clear hs3 hf3 ha3))
        all_goals (
          go_wp2_with fail
          go_ret
          exact ⟨rfl, refDrop_put HR.out HN.out (HX.out.2.2.1.trans' HPUTb.out.2.2.1 (fun k _ e => e)) HPUTb.out.1 (HX.out.2.1.frm HPUTb.out.2.2.1 (fun k hk e => by subst e; exact RBb.out.apart HX.out.2.1 (by decide) hk)) HPUTb.out.2.1 HX.out.2.2.2 (fun k hk => by have := HO3b.out k hk; omega)⟩)
  · obtain ⟨A, cap, rfl, _, _, _⟩ := hq.sl.shape
    have hcw : w.cell? ⟨r, 0, none⟩ = some (.slice A q.length cap) := hq.blk.cell0
    rw [pickL_no (by simpa using hk), dropL_no (by simpa using hk)]
    have HEND : Hid (k < 0 ∨ (¬ k < 0 ∧ (q.length : Int) ≤ k)) := Lib.hid (by omega)
    clear hk hq
    rcases HEND.out with hh | ⟨hh, hh2⟩
    all_goals
      go_enter Try.func29, Try.ntmps29
      go_wp2_with fail
      go_ret
      exact ⟨rfl, .still HI.out (Frm.refl _ _)⟩
def RTake (w0 : World) (F : Nat → Prop) (r : Nat) (l : List Ab) (k : Int) (C : Int → Int → Bool) (w : World) (e : Ending) (w' : World) : Prop :=
  (∃ v, e = .returned (.tuple #[.agg #[.int .i64 (((pickL l k).map Ab.f).getD 0), .int .i64 (((pickL l k).map Ab.t).getD 0), v], .int .i64 (if (pickL l k).isSome then 0 else 2)]) ∧ Sl w' w.heap.size 5 1 v (((pickL l k).map Ab.bs).getD []).length ((((pickL l k).map Ab.bs).getD []).map bv)) ∧ StepR w0 F r (dropL l k) C w w'
theorem pickL_dropL {l : List Ab} {k : Int} (h : (pickL l k).isSome = false) : dropL l k = l := by
  unfold pickL at h
  by_cases hk : 0 ≤ k ∧ k < (l.length : Int)
  · rw [if_pos hk, List.getElem?_eq_getElem (by omega)] at h
    cases h
  · exact dropL_no hk
set_option maxHeartbeats 8000000 in
theorem refTake_any (w0 w : World) (F : Nat → Prop) (r : Nat) (l : List Ab) (C : Int → Int → Bool) (h : IsRd w0 F r l C w) (hl : l.length ≤ 1000) (hbl : ∀ p ∈ l, p.bs.length ≤ 100000) (k : Int) :
    Calls Try.prog 24 #[.pointer (some ⟨r, 0, none⟩), .int .i64 k] w fun e w' => RTake w0 F r l k C w e w' := by
  obtain ⟨W, hW⟩ : ∃ W, w.alloc (.cells #[.int .i64 0, .int .i64 0, .slice none 0 0] 45) = W := ⟨_, rfl⟩
  have FW : Fresh w W := by rw [← hW]; exact (Frm.refl _ w).alloc _
  have BP : Hid (Blk W w.heap.size 45 #[.int .i64 0, .int .i64 0, .slice none 0 0]) := Lib.hid (by rw [← hW]; exact Blk.new w _ _)
  have HI := Lib.hid h
  have HFW := Lib.hid FW
  have HC := Lib.hid (refCopy_any w0 W F r l C (h.fresh FW) hl hbl k)
  unfold CopyQ at HC
  have HX : Hid (∀ (W3 : World), IsRd w0 F r l C W3 → Calls Try.prog 29 #[.pointer (some ⟨r, 0, none⟩), .int .i64 k] W3 fun e w' => RLose w0 F r l k C W3 e w') := Lib.hid (fun W3 h3 => refLose_any w0 W3 F r l C h3 hl k)
  unfold RLose at HX
  unfold RTake
  generalize hpf : ((pickL l k).map Ab.f).getD 0 = pf at *
  generalize hpt : ((pickL l k).map Ab.t).getD 0 = pt at *
  generalize hpb : ((pickL l k).map Ab.bs).getD [] = pb at *
  clear hpf hpt hpb h FW hl hbl
  cases hsome : (pickL l k).isSome with
  | true =>
    rw [hsome] at HC HX
    simp only [if_true] at HC HX ⊢
    clear hsome
    go_enter Try.func24, Try.ntmps24
    go_wp2_with fail
    clear hW
    refine HC.out.mono ?_
    rintro e w2 ⟨v2, rfl, hs2, f2⟩
    obtain ⟨A2, c2, rfl, _⟩ := hs2.shape
    obtain ⟨W3, hW3⟩ : ∃ W3, w2.alloc (.cells #[.int .i64 pf, .int .i64 pt, .slice A2 pb.length c2] 45) = W3 := ⟨_, rfl⟩
    have F3 : Fresh w2 W3 := by rw [← hW3]; exact (Frm.refl _ w2).alloc _
    have HQ : Hid (Blk W3 w2.heap.size 45 #[.int .i64 pf, .int .i64 pt, .slice A2 pb.length c2]) := Lib.hid (by rw [← hW3]; exact Blk.new w2 _ _)
    have HF3 := Lib.hid ((HFW.out.trans f2).trans F3)
    have HB3 := Lib.hid (BP.out.frm (f2.trans F3) (fun f => f))
    have HS3 := Lib.hid ((hs2.fresh F3).less (B' := w.heap.size) (by have := BP.out.lt; omega))
    have hne : w.heap.size ≠ w2.heap.size := by have := BP.out.lt; have := f2.size; omega
    have HL := Lib.hid (HX.out W3 (HI.out.fresh HF3.out))
    have HLOW : Hid (w.heap.size < W3.heap.size ∧ w.heap.size ≤ w2.heap.size) := Lib.hid (by have := BP.out.lt; have := f2.size; have := F3.size; omega)
    clear hs2 f2 F3
    go_wp2_with fail
    try rw [hW3]
    clear hW3
    refine HL.out.mono ?_
    rintro e w4 ⟨rfl, h4⟩
    have HST := Lib.hid h4
    obtain ⟨F', _, k4, _⟩ := h4
    have hout : ∀ k, F k → k < w.heap.size := fun k hk => (HI.out.low k hk).2
    have HOUT := Lib.hid hout
    have q4 := HQ.out.frm k4 (fun e => by have := hout _ e; have := HLOW.out; omega)
    have b4 := HB3.out.frm k4 (fun e => by have := hout _ e; omega)
    have HS4 := Lib.hid (HS3.out.frm k4 (fun k hk e => by have := hout _ e; have := (HS3.out.lt k hk).1; omega))
    have HB4 := Lib.hid b4
    have y0 : w4.cell? ⟨w2.heap.size, 0, none⟩ = some (.int .i64 pf) := q4.cell 0
    have y1 : w4.cell? ⟨w2.heap.size, 1, none⟩ = some (.int .i64 pt) := q4.cell 1
    have y2 : w4.cell? ⟨w2.heap.size, 2, none⟩ = some (.slice A2 pb.length c2) := q4.cell 2
    have x0 : w4.cell? ⟨w.heap.size, 0, none⟩ = some (.int .i64 0) := b4.cell 0
    have x1 : w4.cell? ⟨w.heap.size, 1, none⟩ = some (.int .i64 0) := b4.cell 1
    have x2 : w4.cell? ⟨w.heap.size, 2, none⟩ = some (.slice none 0 0) := b4.cell 2
    have z0 : w4.frozen? ⟨w.heap.size, 0, none⟩ = false := b4.frozen 0
    have z1 : w4.frozen? ⟨w.heap.size, 1, none⟩ = false := b4.frozen 1
    have z2 : w4.frozen? ⟨w.heap.size, 2, none⟩ = false := b4.frozen 2
    clear k4 q4 b4 hout
    go_wp2_with fail
    have hb2 := ((HB4.out.set 0 (.int .i64 pf)).set 1 (.int .i64 pt)).set 2 (.slice A2 pb.length c2)
    have F4 : Frm (fun k => k = w.heap.size) w4 (((w4.setCell ⟨w.heap.size, 0, none⟩ (.int .i64 pf)).setCell ⟨w.heap.size, 1, none⟩ (.int .i64 pt)).setCell ⟨w.heap.size, 2, none⟩ (.slice A2 pb.length c2)) :=
      (((Frm.refl (fun k => k = w.heap.size) w4).setCell (p := ⟨w.heap.size, 0, none⟩) (fun _ => rfl) _).setCell (p := ⟨w.heap.size, 1, none⟩) (fun _ => rfl) _).setCell (p := ⟨w.heap.size, 2, none⟩) (fun _ => rfl) _
    have hld := run_loadVar_row (P := Try.prog) _ (w.heap.size) 45 45 #[.int .i64 pf, .int .i64 pt, .slice A2 pb.length c2] (0, 0) _ hb2 Try.underlying45 rfl (by kernel_rfl)
    refine bodyPost_ret (v := .tuple #[.agg #[.int .i64 pf, .int .i64 pt, .slice A2 pb.length c2], .int .i64 0]) ?_ rfl ⟨⟨_, rfl, ?_⟩, ?_⟩
    · rw [results_cell_tmp Try.results24]
      show (((asAddr (.pointer (some ⟨w.heap.size, 0, none⟩))).run Try.prog _).andThen fun a w₁ => ((loadVar 45 a).run Try.prog w₁).andThen fun v w₂ => Result.ok (Value.tuple #[v, Value.int .i64 0]) w₂) = _
      simp only [asAddr, Sem.run_pure, Result.andThen_ok, hld]
    · exact HS4.out.frm F4 (fun k hk e => by subst e; exact HS4.out.apart HB4.out (by decide) hk)
    · exact HST.out.wrap HOUT.out HI.out.frm.size HF3.out F4 (fun k e => by have := HLOW.out.1; omega)
  | false =>
    rw [hsome] at HC HX
    rw [pickL_dropL hsome]
    simp only [Bool.false_eq_true, if_false] at HC HX ⊢
    clear hsome HX
    go_enter Try.func24, Try.ntmps24
    go_wp2_with fail
    clear hW
    refine HC.out.mono ?_
    rintro e w2 ⟨v2, rfl, hs2, f2⟩
    obtain ⟨A2, c2, rfl, _⟩ := hs2.shape
    obtain ⟨W3, hW3⟩ : ∃ W3, w2.alloc (.cells #[.int .i64 pf, .int .i64 pt, .slice A2 pb.length c2] 45) = W3 := ⟨_, rfl⟩
    have F3 : Fresh w2 W3 := by rw [← hW3]; exact (Frm.refl _ w2).alloc _
    have q4 : Blk W3 w2.heap.size 45 #[.int .i64 pf, .int .i64 pt, .slice A2 pb.length c2] := by rw [← hW3]; exact Blk.new w2 _ _
    have HF3 := Lib.hid ((HFW.out.trans f2).trans F3)
    have b4 := BP.out.frm (f2.trans F3) (fun f => f)
    have HB4 := Lib.hid b4
    have HS4 := Lib.hid ((hs2.fresh F3).less (B' := w.heap.size) (by have := BP.out.lt; omega))
    have hne : w.heap.size ≠ w2.heap.size := by have := BP.out.lt; have := f2.size; omega
    have y0 : W3.cell? ⟨w2.heap.size, 0, none⟩ = some (.int .i64 pf) := q4.cell 0
    have y1 : W3.cell? ⟨w2.heap.size, 1, none⟩ = some (.int .i64 pt) := q4.cell 1
    have y2 : W3.cell? ⟨w2.heap.size, 2, none⟩ = some (.slice A2 pb.length c2) := q4.cell 2
    have x0 : W3.cell? ⟨w.heap.size, 0, none⟩ = some (.int .i64 0) := b4.cell 0
    have x1 : W3.cell? ⟨w.heap.size, 1, none⟩ = some (.int .i64 0) := b4.cell 1
    have x2 : W3.cell? ⟨w.heap.size, 2, none⟩ = some (.slice none 0 0) := b4.cell 2
    have z0 : W3.frozen? ⟨w.heap.size, 0, none⟩ = false := b4.frozen 0
    have z1 : W3.frozen? ⟨w.heap.size, 1, none⟩ = false := b4.frozen 1
    have z2 : W3.frozen? ⟨w.heap.size, 2, none⟩ = false := b4.frozen 2
    clear hs2 f2 F3 q4 b4
    go_wp2_with fail
    try rw [hW3]
    have hb2 := ((HB4.out.set 0 (.int .i64 pf)).set 1 (.int .i64 pt)).set 2 (.slice A2 pb.length c2)
    have F4 : Frm (fun k => k = w.heap.size) W3 (((W3.setCell ⟨w.heap.size, 0, none⟩ (.int .i64 pf)).setCell ⟨w.heap.size, 1, none⟩ (.int .i64 pt)).setCell ⟨w.heap.size, 2, none⟩ (.slice A2 pb.length c2)) :=
      (((Frm.refl (fun k => k = w.heap.size) W3).setCell (p := ⟨w.heap.size, 0, none⟩) (fun _ => rfl) _).setCell (p := ⟨w.heap.size, 1, none⟩) (fun _ => rfl) _).setCell (p := ⟨w.heap.size, 2, none⟩) (fun _ => rfl) _
    have hld := run_loadVar_row (P := Try.prog) _ (w.heap.size) 45 45 #[.int .i64 pf, .int .i64 pt, .slice A2 pb.length c2] (0, 0) _ hb2 Try.underlying45 rfl (by kernel_rfl)
    refine bodyPost_ret (v := .tuple #[.agg #[.int .i64 pf, .int .i64 pt, .slice A2 pb.length c2], .int .i64 2]) ?_ rfl ⟨⟨_, rfl, ?_⟩, ?_⟩
    · rw [results_cell_tmp Try.results24]
      show (((asAddr (.pointer (some ⟨w.heap.size, 0, none⟩))).run Try.prog _).andThen fun a w₁ => ((loadVar 45 a).run Try.prog w₁).andThen fun v w₂ => Result.ok (Value.tuple #[v, Value.int .i64 2]) w₂) = _
      simp only [asAddr, Sem.run_pure, Result.andThen_ok, hld]
    · exact HS4.out.frm F4 (fun k hk e => by subst e; exact HS4.out.apart HB4.out (by decide) hk)
    · exact (StepR.still (HI.out.fresh HF3.out) (Frm.refl _ W3)).wrap (fun k hk => (HI.out.low k hk).2) HI.out.frm.size HF3.out F4 (fun k e => by have := HB4.out.lt; omega)
end Go.Proofs.Ytlceembcehokoaa

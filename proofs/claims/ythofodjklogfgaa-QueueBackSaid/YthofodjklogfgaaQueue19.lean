/- Remove of the document's list. (Printed by gen19.py.) -/
import Derived.Test.YthofodjklogfgaaQueue18
namespace Go.Proofs.Ythofodjklogfgaa
open Go.RowKit QueueM
attribute [local go_sem] run_store_float

theorem del_parts {id : Int} {l : List Wt} : (del id l).flatMap wcells = [] ++ (l.take (place id l)).flatMap wcells ++ (l.drop (place id l + 1)).flatMap wcells := by
  rw [wcells_del, wcells_take, wcells_drop, List.nil_append]
def RemovePostR (w : World) (B b : Nat) (id : Int) (l : List Wt) (e : Ending) (w' : World) : Prop :=
  e = .returned (.int .i64 (remove id l).1) ∧ StepR w B b (remove id l).2 w'
set_option maxRecDepth 100000 in
set_option maxHeartbeats 4000000 in
theorem refRemove_any (w : World) (B b : Nat) (v : Value) (l : List Wt) (id : Int) (h : IsR w B b v l) (hl : l.length ≤ 1000) :
    Calls Try.prog 31 #[.pointer (some ⟨b, 0, none⟩), .int .i64 id] w fun e w' => RemovePostR w B b id l e w' := by
  obtain ⟨i0, hi, hz0, hz1, hz2⟩ := info_parts info_a
  have HQ := Lib.hid h
  have HPL := Lib.hid (refPlace_any w B b v l id h hl)
  have HREM := Lib.hid (show remove id l = if has id l = true then (0, del id l) else (2, l) from rfl)
  rcases Bool.eq_false_or_eq_true (has id l) with hh | hh
  · obtain ⟨hp, hpl⟩ := plc_yes hh
    rw [hh, if_pos rfl] at HREM
    rw [hp] at HPL
    have HDL := Lib.hid (del_length hpl)
    have HDC := Lib.hid (del_parts (id := id) (l := l))
    generalize place id l = p at HPL hpl HDC
    clear hp hh
    obtain ⟨bl, ol, cap, rfl, _, _, hnc, hcm⟩ := h.sl.head (by omega)
    clear h
    unfold maxLen at hcm
    have hp0 : ¬ (p : Int) < 0 := by omega
    have q0 : (0 : Int) ≤ (p : Int) := by omega
    have q1 : (p : Int) ≤ (cap : Int) := by omega
    have q2 : ((p : Int) + 1).toNat = p + 1 := by omega
    have q3 : (0 : Int) ≤ (p : Int) + 1 := by omega
    have q4 : (p : Int) + 1 ≤ (l.length : Int) := by omega
    have q5 : (l.length : Int) ≤ (cap : Int) := by omega
    have q6 : (p : Int) ≤ 1000 := by omega
    have q7 : IntKind.i64.wrap ((p : Int) + 1) = (p : Int) + 1 := IntWalk.i64_in _ (by omega)
    have HL1 : Hid (((l.take p).flatMap wcells).length = p * 5) := Lib.hid (by rw [wcells_len, List.length_take, Nat.min_eq_left (by omega)])
    have hge := HQ.out.ge
    have hblt := HQ.out.blk.lt
    by_cases hci : cap = p + 1
    · obtain rfl : cap = l.length := by omega
      have HL2 : Hid (((l.drop (p + 1)).flatMap wcells).length = 0 * 5) := Lib.hid (by rw [wcells_len, List.length_drop]; omega)
      have HLEN : Hid (0 + p + 0 = l.length - 1) := Lib.hid (by omega)
      have hci' : p + 1 = l.length := by omega
      have RDD : Hid (∀ w', Fresh w w' → Rd w' w'.heap.size (some ⟨bl, ol, none⟩) ((l.drop (p + 1)).flatMap wcells)) := Lib.hid (fun w' F => by rw [List.drop_eq_nil_of_le (by omega)]; exact Rd.nil _ _ _)
      clear hci
      have S0 : Hid (Sl (w.alloc (.cells #[] 28)).drew B 28 5 (.slice (some ⟨w.heap.size, 0, none⟩) 0 0) 0 []) := Lib.hid (sl_zero w B (by omega))
      have hc1 : (w.alloc (.cells #[] 28)).drew.cell? ⟨b, 0, none⟩ = some (.slice (some ⟨bl, ol, none⟩) l.length l.length) := (HQ.out.fresh ((Frm.refl _ w).alloc _)).blk.cell 0
      have RT : Hid (Rd (w.alloc (.cells #[] 28)).drew w.heap.size (some ⟨bl, ol, none⟩) ((l.take p).flatMap wcells)) := Lib.hid (by rw [wcells_take]; exact ((HQ.out.sl.rd.take _).alloc (Nat.le_refl _) _).drew)
      have hc0 : w.drew.cell? ⟨b, 0, none⟩ = some (.slice (some ⟨bl, ol, none⟩) l.length l.length) := HQ.out.blk.cell 0
      go_enter Try.func31, Try.ntmps31
      go_wp2_with fail
      refine HPL.out.mono ?_
      rintro e w2 ⟨rfl, hw2⟩
      rw [hw2]
      clear hw2 w2
      go_wp2_with fail
      go_region_law (first
        | (refine step_append_sl (by rfl) (.tmp 12) (.tmp 18) _ (by rfl) B 28 i0 _ 5 40 Try.underlying22 hi hz0 hz1 hz2 rfl (by omega) (.slice (some ⟨w.heap.size, 0, none⟩) 0 0) 0 [] (by simp [Act.eval, Act.put]) S0.out w.heap.size (some ⟨bl, ol, none⟩) p l.length ((l.take p).flatMap wcells) (by simp [Act.eval, Act.put]) HL1.out RT.out (wcells_one _) (by unfold maxLen; omega) (by omega) (by simp; omega) ?_; intro v1 wa hs1 hf1 ha1; have HA1 : Hid (Fresh w wa) := Lib.hid (((Frm.refl _ w).alloc _).drew.trans' hf1 (fun i hi hk => by have := own_at hk; omega)); have HS1 := Lib.hid hs1; have hsa := HA1.out.size; have HO1 : Hid (∀ k, v1.ownBlock = some k → w.heap.size ≤ k) := Lib.hid (fun k hk => by rcases ha1 with h | h <;> rw [h] at hk <;> first | (have := own_at hk; omega) | (have := Option.some.inj hk; simp at this; omega)); have hca : wa.cell? ⟨b, 0, none⟩ = some (.slice (some ⟨bl, ol, none⟩) l.length l.length) := (HQ.out.fresh HA1.out).blk.cell 0; clear hs1 hf1 ha1)
        | (refine step_append_sl (by rfl) (.tmp 19) (.tmp 26) _ (by rfl) B 28 i0 _ 5 40 Try.underlying22 hi hz0 hz1 hz2 rfl (by omega) v1 (0 + p) _ (by simp [Act.eval, Act.put]) HS1.out wa.heap.size (some ⟨bl, ol, none⟩) 0 0 ((l.drop (p + 1)).flatMap wcells) (by simp [Act.eval, Act.put]) HL2.out (RDD.out wa HA1.out) (wcells_one _) (by unfold maxLen; omega) (by omega) (by omega) ?_; intro v3 wc hs3 hf3 ha3; rw [HLEN.out] at hs3; have HC1 : Hid (Fresh w wc) := Lib.hid (HA1.out.trans' hf3 (fun i hi hk => by have := HO1.out _ hk; omega)); obtain ⟨A3, c3, rfl, _⟩ := hs3.shape; have hbc := (HQ.out.fresh HC1.out).blk; have hcc : wc.cell? ⟨b, 0, none⟩ = some (.slice (some ⟨bl, ol, none⟩) l.length l.length) := hbc.cell 0; have hcf := hbc.frozen 0; have HPUT := Lib.hid (putR hge HC1.out hbc hs3); clear hs3 hf3 ha3 hbc))
      all_goals (
        go_wp2_with fail
        go_ret
        exact ⟨by rw [HREM.out]; exact rfl, by rw [HREM.out]; exact ⟨_, ⟨HPUT.out.1, hge, by show Sl _ _ _ _ _ (del id l).length _; rw [HDL.out, HDC.out]; exact HPUT.out.2.1⟩, HPUT.out.2.2⟩⟩)
    · have HL2 : Hid (((l.drop (p + 1)).flatMap wcells).length = (l.length - (p + 1)) * 5) := Lib.hid (by rw [wcells_len, List.length_drop])
      have HLEN : Hid (0 + p + (l.length - (p + 1)) = l.length - 1) := Lib.hid (by omega)
      have RDD : Hid (∀ w', Fresh w w' → Rd w' w'.heap.size (some ⟨bl, ol + (p + 1) * 5, none⟩) ((l.drop (p + 1)).flatMap wcells)) := Lib.hid (fun w' F => by rw [wcells_drop]; exact rd_drop (HQ.out.fresh F).sl.rd)
      have S0 : Hid (Sl (w.alloc (.cells #[] 28)).drew B 28 5 (.slice (some ⟨w.heap.size, 0, none⟩) 0 0) 0 []) := Lib.hid (sl_zero w B (by omega))
      have hc1 : (w.alloc (.cells #[] 28)).drew.cell? ⟨b, 0, none⟩ = some (.slice (some ⟨bl, ol, none⟩) l.length cap) := (HQ.out.fresh ((Frm.refl _ w).alloc _)).blk.cell 0
      have RT : Hid (Rd (w.alloc (.cells #[] 28)).drew w.heap.size (some ⟨bl, ol, none⟩) ((l.take p).flatMap wcells)) := Lib.hid (by rw [wcells_take]; exact ((HQ.out.sl.rd.take _).alloc (Nat.le_refl _) _).drew)
      have hc0 : w.drew.cell? ⟨b, 0, none⟩ = some (.slice (some ⟨bl, ol, none⟩) l.length cap) := HQ.out.blk.cell 0
      go_enter Try.func31, Try.ntmps31
      go_wp2_with fail
      refine HPL.out.mono ?_
      rintro e w2 ⟨rfl, hw2⟩
      rw [hw2]
      clear hw2 w2
      go_wp2_with fail
      go_region_law (first
        | (refine step_append_sl (by rfl) (.tmp 12) (.tmp 18) _ (by rfl) B 28 i0 _ 5 40 Try.underlying22 hi hz0 hz1 hz2 rfl (by omega) (.slice (some ⟨w.heap.size, 0, none⟩) 0 0) 0 [] (by simp [Act.eval, Act.put]) S0.out w.heap.size (some ⟨bl, ol, none⟩) p cap ((l.take p).flatMap wcells) (by simp [Act.eval, Act.put]) HL1.out RT.out (wcells_one _) (by unfold maxLen; omega) (by omega) (by simp; omega) ?_; intro v1 wa hs1 hf1 ha1; have HA1 : Hid (Fresh w wa) := Lib.hid (((Frm.refl _ w).alloc _).drew.trans' hf1 (fun i hi hk => by have := own_at hk; omega)); have HS1 := Lib.hid hs1; have hsa := HA1.out.size; have HO1 : Hid (∀ k, v1.ownBlock = some k → w.heap.size ≤ k) := Lib.hid (fun k hk => by rcases ha1 with h | h <;> rw [h] at hk <;> first | (have := own_at hk; omega) | (have := Option.some.inj hk; simp at this; omega)); have hca : wa.cell? ⟨b, 0, none⟩ = some (.slice (some ⟨bl, ol, none⟩) l.length cap) := (HQ.out.fresh HA1.out).blk.cell 0; clear hs1 hf1 ha1)
        | (refine step_append_sl (by rfl) (.tmp 19) (.tmp 26) _ (by rfl) B 28 i0 _ 5 40 Try.underlying22 hi hz0 hz1 hz2 rfl (by omega) v1 (0 + p) _ (by simp [Act.eval, Act.put]) HS1.out wa.heap.size (some ⟨bl, ol + (p + 1) * 5, none⟩) (l.length - (p + 1)) (cap - (p + 1)) ((l.drop (p + 1)).flatMap wcells) (by simp [Act.eval, Act.put]) HL2.out (RDD.out wa HA1.out) (wcells_one _) (by unfold maxLen; omega) (by omega) (by omega) ?_; intro v3 wc hs3 hf3 ha3; rw [HLEN.out] at hs3; have HC1 : Hid (Fresh w wc) := Lib.hid (HA1.out.trans' hf3 (fun i hi hk => by have := HO1.out _ hk; omega)); obtain ⟨A3, c3, rfl, _⟩ := hs3.shape; have hbc := (HQ.out.fresh HC1.out).blk; have hcc : wc.cell? ⟨b, 0, none⟩ = some (.slice (some ⟨bl, ol, none⟩) l.length cap) := hbc.cell 0; have hcf := hbc.frozen 0; have HPUT := Lib.hid (putR hge HC1.out hbc hs3); clear hs3 hf3 ha3 hbc))
      all_goals (
        go_wp2_with fail
        go_ret
        exact ⟨by rw [HREM.out]; exact rfl, by rw [HREM.out]; exact ⟨_, ⟨HPUT.out.1, hge, by show Sl _ _ _ _ _ (del id l).length _; rw [HDL.out, HDC.out]; exact HPUT.out.2.1⟩, HPUT.out.2.2⟩⟩)
  · clear h
    rw [hh, if_neg (by simp)] at HREM
    rw [plc_no hh] at HPL
    clear hh
    go_enter Try.func31, Try.ntmps31
    go_wp2_with fail
    refine HPL.out.mono ?_
    rintro e w2 ⟨rfl, hw2⟩
    rw [hw2]
    clear hw2 w2
    go_wp2_with fail
    go_ret
    exact ⟨by rw [HREM.out]; exact rfl, by rw [HREM.out]; exact StepR.still HQ.out (Frm.refl _ _)⟩
end Go.Proofs.Ythofodjklogfgaa

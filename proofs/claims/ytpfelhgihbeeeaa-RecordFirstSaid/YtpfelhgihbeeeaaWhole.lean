/- What the statements' whole computes: records one behind the other. -/
import Derived.Test.YtpfelhgihbeeeaaNumber
import Derived.Test.YtpfelhgihbeeeaaScanMath2
namespace Go.Proofs.Ytpfelhgihbeeeaa
open Go.RowKit

def ends (l : List (List UInt8)) : List Nat := (List.range l.length).map fun k => (recs (l.take (k + 1))).length
theorem info_int : (Try.prog.info? 3).map (fun i => (i.zero, i.size, i.bytes)) = some (some (.int .i64 0), 1, 8) := by kernel_rfl
def nv (n : Nat) : Value := .int .i64 (n : Int)
theorem ends_take (l : List (List UInt8)) (k : Nat) (h : k < l.length) : ends (l.take (k + 1)) = ends (l.take k) ++ [(recs (l.take (k + 1))).length] := by
  unfold ends
  rw [List.length_take, List.length_take, Nat.min_eq_left (by omega), Nat.min_eq_left (by omega), List.range_succ, List.map_append]
  congr 1
  · apply List.map_congr_left
    intro j hj
    rw [List.mem_range] at hj
    rw [List.take_take, List.take_take, Nat.min_eq_left (by omega), Nat.min_eq_left (by omega)]
  · simp [List.take_take]
/-- not too much -/
def Fits (l : List (List UInt8)) : Prop := ∀ k (h : k < l.length), l[k].length ≤ 65536 ∧ (recs (l.take k)).length ≤ 500000
def WholePost (w : World) (l : List (List UInt8)) (e : Ending) (w' : World) : Prop :=
  Fresh w w' ∧ ((Fits l ∧ ∃ v v2, e = .returned (.tuple #[v, v2, .bool true]) ∧ Sl w' w.heap.size 5 1 v (recs l).length ((recs l).map bv) ∧ Sl w' w.heap.size 3 1 v2 l.length ((ends l).map nv)) ∨
    (¬ Fits l ∧ e = .returned (.tuple #[.slice none 0 0, .slice none 0 0, .bool false])))
set_option maxHeartbeats 2000000 in
theorem whole_any (w : World) (A : Option Addr) (c : Nat) (l : List (List UInt8)) (h : RdLs w A l) (hl : l.length ≤ 140737488351232) :
    Calls Try.prog 16 #[.slice A l.length c] w fun e w' => WholePost w l e w' := by
  obtain ⟨i0, hi, hz0, hz1, hz2⟩ := info_parts info_u8
  obtain ⟨i1, hi1, hy0, hy1, hy2⟩ := info_parts info_int
  have H := Lib.hid h
  clear h
  go_enter Try.func16, Try.ntmps16
  go_wp2_with fail
  go_loopw [5, 6, 7] (fun v5 v6 v7 wr => ∃ (k : Nat) (v v2 : Value), v = v5 ∧ v2 = v6 ∧ k ≤ l.length ∧ v7 = .int .i64 (k : Int) ∧ (∀ j (h : j < l.length), j < k → l[j].length ≤ 65536 ∧ (recs (l.take j)).length ≤ 500000) ∧ (recs (l.take k)).length ≤ 565544 ∧
    Sl wr w.heap.size 5 1 v (recs (l.take k)).length ((recs (l.take k)).map bv) ∧ Sl wr w.heap.size 3 1 v2 k ((ends (l.take k)).map nv) ∧ Fresh w wr) (fun _ _ v7 _ => l.length - (intOf v7).toNat)
  case atStart => exact ⟨0, _, _, rfl, rfl, by omega, rfl, fun _ _ h => by omega, by simp [recs], by simpa [recs] using Sl.nil _ _ _ _, by simpa [ends] using Sl.nil _ _ _ _, Frm.refl _ _⟩
  case round =>
    obtain ⟨k, v, v2, hv, hv2, hk, rfl, hfit, hlen, hs, hs2, hF⟩ := hrel
    subst hv hv2
    obtain ⟨A5, c5, rfl, hc51, hc52, _⟩ := hs.shape
    obtain ⟨A6, c6, rfl, hc61, hc62, _⟩ := hs2.shape
    have HS := Lib.hid hs
    have HS2 := Lib.hid hs2
    have HF := Lib.hid hF
    have HFIT := Lib.hid hfit
    have hsz := hF.size
    have hcnt := recs_cnt (l.take k)
    rw [List.length_take, Nat.min_eq_left hk] at hcnt
    clear hs hs2 hF hfit
    by_cases hkl : k < l.length
    · obtain ⟨b, o, B, d, rfl, hc, hr⟩ := (H.out.fresh HF.out).at_ hkl
      have HRT := Lib.hid (show recs (l.take (k + 1)) = recs (l.take k) ++ rec l[k] from by rw [List.take_succ_eq_append_getElem hkl, recs_snoc])
      obtain ⟨x, hx⟩ : ∃ x, x = l[k] := ⟨_, rfl⟩
      rw [← hx] at hc hr HRT
      have HX := Lib.hid hx
      clear hx
      have hk0 : (0 : Int) ≤ k := by omega
      have hk2 : (k : Int) < l.length := by omega
      by_cases q1 : 65536 < x.length
      · have HNF := Lib.hid (show ¬ Fits l from fun h => by have := (h k hkl).1; rw [← HX.out] at this; omega)
        go_wp2_with fail
        refine (put_no wr B d x.length q1).mono ?_
        rintro e w1 ⟨rfl, rfl⟩
        go_wp2_with fail
        go_ret3
        exact ⟨HF.out, .inr ⟨HNF.out, rfl⟩⟩
      · go_wp2_with fail
        refine (put_any wr B d x hr (by omega)).mono ?_
        rintro e w1 ⟨v1, rfl, hs1, hf1⟩
        obtain ⟨A1, c1, rfl, _, _, _⟩ := hs1.shape
        by_cases q2 : 500000 < (recs (l.take k)).length
        · have HNF := Lib.hid (show ¬ Fits l from fun h => by have := (h k hkl).2; omega)
          have q2i : (500000 : Int) < ((recs (l.take k)).length : Int) := by omega
          have HF1 := Lib.hid (HF.out.trans hf1)
          clear hs1 hf1
          go_wp2_with fail
          go_ret3
          exact ⟨HF1.out, .inr ⟨HNF.out, rfl⟩⟩
        · have q2i : ¬ (500000 : Int) < ((recs (l.take k)).length : Int) := by omega
          have HS1 := Lib.hid hs1
          have HSA := Lib.hid (HS.out.fresh hf1)
          have HS2A := Lib.hid (HS2.out.fresh hf1)
          have HF1 := Lib.hid (HF.out.trans hf1)
          have hsz1 := HF1.out.size
          have hxl : x.length ≤ 65536 := by omega
          have hln : (recs (l.take (k + 1))).length = (recs (l.take k)).length + (x.length + 8) := by rw [HRT.out, List.length_append, rec_len]
          have HLN := Lib.hid hln
          clear hs1 hf1 hln
          go_wp2_with (first
            | (at_builtin; refine wpList_append_sl _ rfl (.tmp 31) (.tmp 32) _ rfl w.heap.size 5 i0 _ 1 1 Try.underlying22 hi hz0 hz1 hz2 rfl (by omega) _ _ _ rfl HSA.out _ _ _ _ _ rfl (by rw [List.length_map, rec_len, Nat.mul_one]) HS1.out.rd (bv_one _) (by unfold maxLen; omega) (by omega) hsz1 ?_; intro v6 w6 hs6 hf6 ha6; obtain ⟨A7, c7, rfl, hc71, hc72, _⟩ := hs6.shape; have HS6 := Lib.hid hs6; have HF6 := Lib.hid hf6; have hsz6 := hf6.size; have HS26 := Lib.hid ((HS2A.out.frm hf6 (sl_apart HS2A.out HSA.out (by decide))).alloc (.cells #[.int .i64 (((recs (l.take k)).length + (x.length + 8) : Nat) : Int)] 3)); clear hs6 hf6 ha6; have R60 := Lib.hid (rd_one w6 (.int .i64 (((recs (l.take k)).length + (x.length + 8) : Nat) : Int)) 3))
            | (at_builtin; refine wpList_append_sl _ rfl (.tmp 34) (.tmp 37) _ rfl w.heap.size 3 i1 _ 1 8 Try.underlying32 hi1 hy0 hy1 hy2 rfl (by omega) _ _ _ rfl HS26.out _ _ 1 _ _ rfl (by rfl) R60.out (fun u hu => by simp at hu; subst hu; rfl) (by unfold maxLen; omega) (by omega) (by simp; omega) ?_; intro v9 w9 hs9 hf9 ha9; have HS9 := Lib.hid hs9; have HF9 := Lib.hid hf9; clear hs9 hf9 ha9))
          go_roundw
          case rel =>
            refine ⟨k + 1, _, _, rfl, rfl, by omega, by go_num, ?_, by rw [HLN.out]; omega, ?_, ?_, ?_⟩
            · intro j h hj
              by_cases hjk : j < k
              · exact HFIT.out j h hjk
              · obtain rfl : j = k := by omega
                exact ⟨by rw [← HX.out]; omega, by omega⟩
            · rw [HLN.out, HRT.out, List.map_append]
              exact (HS6.out.alloc _).frm HF9.out (sl_apart (HS6.out.alloc _) HS26.out (by decide))
            · rw [ends_take l k hkl, List.map_append, List.map_cons, List.map_nil, HLN.out]
              exact HS9.out
            · exact ((HF1.out.trans' HF6.out (fun i hi hk => by have := (HSA.out.lt _ hk).1; omega)).alloc _).trans' HF9.out (fun i hi hk => by have := (HS26.out.lt _ hk).1; omega)
          case measure => simp [intOf]; omega
    · obtain rfl : k = l.length := by omega
      have HOK := Lib.hid (show Fits l from fun j h => HFIT.out j h h)
      have HT := Lib.hid (show l.take l.length = l from List.take_length)
      rw [HT.out] at HS HS2
      rw [HT.out]
      go_wp2_with fail
      go_ret3
      exact ⟨HF.out, .inl ⟨HOK.out, _, _, rfl, HS.out, HS2.out⟩⟩
theorem Fits.len {l : List (List UInt8)} (h : Fits l) : (recs l).length ≤ 565544 := by
  rcases Nat.eq_zero_or_pos l.length with h0 | h0
  · rw [List.eq_nil_of_length_eq_zero h0]; simp [recs]
  · obtain ⟨h1, h2⟩ := h (l.length - 1) (by omega)
    have e : l = l.take (l.length - 1) ++ [l[l.length - 1]'(by omega)] := by
      rw [← List.take_succ_eq_append_getElem (by omega), show l.length - 1 + 1 = l.length by omega, List.take_length]
    have e2 := congrArg (fun m => (recs m).length) e
    simp only [recs_snoc, List.length_append, rec_len] at e2
    omega
theorem Fits.all {l : List (List UInt8)} (h : Fits l) : ∀ x ∈ l, x.length ≤ 65536 := by
  intro x hx
  obtain ⟨k, hk, rfl⟩ := List.mem_iff_getElem.1 hx
  exact (h k hk).1
end Go.Proofs.Ytpfelhgihbeeeaa

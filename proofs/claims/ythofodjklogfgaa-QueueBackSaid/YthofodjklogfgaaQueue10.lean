/- Remove, All of the program's list. -/
import Derived.Test.YthofodjklogfgaaQueue9
namespace Go.Proofs.Ythofodjklogfgaa
open Go.RowKit QueueM
attribute [local go_sem] run_store_float

def RemovePost (w : World) (B b : Nat) (v : Value) (id : Int) (l : List Wt) (e : Ending) (w' : World) : Prop :=
  e = .returned (.int .i64 (remove id l).1) ∧ StepQ w B b v (remove id l).2 w'
theorem del_length {id : Int} {l : List Wt} (h : place id l < l.length) : (del id l).length = l.length - 1 := by
  rw [del_eq, List.length_eraseIdx, if_pos h]
set_option maxHeartbeats 2000000 in
theorem remove_any (w : World) (B b : Nat) (v : Value) (l : List Wt) (id : Int) (h : IsQ w B b v l) (hl : l.length ≤ 1000) :
    Calls Try.prog 15 #[.pointer (some ⟨b, 0, none⟩), .int .i64 id] w fun e w' => RemovePost w B b v id l e w' := by
  have HQ := Lib.hid h
  have HPL := Lib.hid (place_any w B b v l id h hl)
  have HREM := Lib.hid (show remove id l = if has id l = true then (0, del id l) else (2, l) from rfl)
  clear h
  rcases Bool.eq_false_or_eq_true (has id l) with hh | hh
  · obtain ⟨hp, hpl⟩ := plc_yes hh
    rw [hh, if_pos rfl] at HREM
    rw [hp] at HPL
    have HDL := Lib.hid (del_length hpl)
    have HDC := Lib.hid (wcells_del id l)
    generalize place id l = p at HPL hpl HDC
    clear hp hh
    have hp0 : ¬ (p : Int) < 0 := by omega
    have hp1 : (0 : Int) ≤ (p : Int) := by omega
    have hp2 : (p : Int) ≤ 1000 := by omega
    go_enter Try.func15, Try.ntmps15
    go_wp2_with fail
    refine HPL.out.mono ?_
    rintro e w1 ⟨rfl, f1⟩
    have HF1 := Lib.hid f1
    have HQ1 := Lib.hid (HQ.out.fresh f1)
    obtain ⟨A, cap, rfl, hnc, hcm, _⟩ := HQ.out.sl.shape
    have hc : w1.cell? ⟨b, 0, none⟩ = some (.slice A l.length cap) := HQ1.out.blk.cell 0
    have HAP := Lib.hid (HQ1.out.sl.apart HQ1.out.blk (by decide))
    have HDE := Lib.hid (delete_any w1 B _ l.length _ HQ1.out.sl (by omega) p hpl (wcells_one l))
    have hge := HQ1.out.ge
    clear f1
    go_wp2_with fail
    refine HDE.out.mono ?_
    rintro e w5 ⟨v5, rfl, hs5, hf5, ho5⟩
    have k := HQ1.out.blk.frm hf5 HAP.out
    have k1 : w5.cell? ⟨b, 0, none⟩ = some (.slice A l.length cap) := k.cell 0
    have k2 := k.frozen 0
    have HS6 := Lib.hid (stored hge k hs5)
    have HFF := Lib.hid (own_frm (b := b) (v' := v5) HF1.out hf5)
    have HO5 := Lib.hid ho5
    have hsz := HF1.out.size
    obtain ⟨A5, c5, rfl, _⟩ := hs5.shape
    clear hs5 hf5 ho5 k
    go_wp2_with fail
    go_ret
    exact ⟨by rw [HREM.out]; exact rfl, by rw [HREM.out]; exact ⟨_, ⟨HS6.out.1, hge, by show Sl _ _ _ _ _ (del id l).length _; rw [HDL.out, HDC.out]; exact HS6.out.2⟩, HFF.out, HO5.out.elim .inl (fun ⟨k, h1, h2⟩ => .inr ⟨k, h1, by omega⟩)⟩⟩
  · rw [hh, if_neg (by simp)] at HREM
    rw [plc_no hh] at HPL
    clear hh
    go_enter Try.func15, Try.ntmps15
    go_wp2_with fail
    refine HPL.out.mono ?_
    rintro e w1 ⟨rfl, f1⟩
    have HF1 := Lib.hid f1
    clear f1
    go_wp2_with fail
    go_ret
    exact ⟨by rw [HREM.out]; exact rfl, by rw [HREM.out]; exact StepQ.still HQ.out HF1.out⟩
/-- a slice of api.Wait of the call's own -/
def Waits (w : World) (B : Nat) (v : Value) (l : List Wt) : Prop := Sl w B 28 5 v l.length (l.flatMap wcells)
theorem info_a : (Try.prog.info? 28).map (fun i => (i.zero, i.size, i.bytes)) = some (some (.agg #[.int .i64 0, .int .i64 0, .int .i64 0, .int .i64 0, .float .f64 0]), 5, 40) := by kernel_rfl
def AllPost (w : World) (l : List Wt) (e : Ending) (w' : World) : Prop := ∃ v, e = .returned v ∧ Waits w' w.heap.size v l ∧ Fresh w w'
set_option maxHeartbeats 2000000 in
theorem all_any (w : World) (B b : Nat) (v : Value) (l : List Wt) (h : IsQ w B b v l) (hl : l.length ≤ 1000) :
    Calls Try.prog 12 #[.pointer (some ⟨b, 0, none⟩)] w fun e w' => AllPost w l e w' := by
  obtain ⟨i0, hi, hz0, hz1, hz2⟩ := info_parts info_a
  have HQ := Lib.hid h
  obtain ⟨A, cap, rfl, hnc, hcm, _⟩ := h.sl.shape
  have hc : w.cell? ⟨b, 0, none⟩ = some (.slice A l.length cap) := h.blk.cell 0
  have HR := Lib.hid h.sl.rd
  clear h
  go_enter Try.func12, Try.ntmps12
  go_wp2_with fail
  go_loopw [3, 11] (fun v3 v11 wr => ∃ (i : Nat) (u : Value), u = v3 ∧ i ≤ l.length ∧ v11 = .int .i64 (i : Int) ∧ Sl wr w.heap.size 28 5 u i ((l.take i).flatMap wcells) ∧ Fresh w wr) (fun _ v11 _ => l.length - (intOf v11).toNat)
  case atStart => exact ⟨0, _, rfl, by omega, rfl, by simpa using Sl.nil _ _ _ _, Frm.refl _ _⟩
  case round =>
    obtain ⟨i, u, rfl, hi1, rfl, hs, hf⟩ := hrel
    have HS := Lib.hid hs
    have HF := Lib.hid hf
    have hsz := hf.size
    have hi0 : (0 : Int) ≤ (i : Int) := by omega
    by_cases hlt : i < l.length
    · obtain ⟨b', o, rfl, _, h5⟩ := five_at ((HR.out.fresh (Nat.le_refl _) hf).more hf.size) hlt
      have HT := Lib.hid (show (l.take (i + 1)).flatMap wcells = (l.take i).flatMap wcells ++ wcells l[i] by rw [List.take_succ_eq_append_getElem hlt, List.flatMap_append]; simp)
      have h1x : ∀ u ∈ wcells l[i], u.oneCell' = true := by have := wcells_one [l[i]]; simpa using this
      obtain ⟨x, hx⟩ : ∃ x, x = l[i] := ⟨_, rfl⟩
      rw [← hx] at h5 HT h1x
      clear hx
      obtain ⟨xi, xc, xm, xt, xs⟩ := x
      obtain ⟨c0, c1, c2, c3, c4⟩ := h5
      dsimp only at c0 c1 c2 c3 c4
      have H1X := Lib.hid h1x
      have hlti : (i : Int) < (l.length : Int) := by omega
      obtain ⟨W, hW⟩ : ∃ W, W = wr.alloc (.cells #[.int .i64 xi, .int .i64 xc, .int .i64 xm, .int .i64 xt, .float .f64 xs] 62) := ⟨_, rfl⟩
      have R1 : Hid (Rd (W.alloc (.cells #[.int .i64 xi, .int .i64 xc, .int .i64 xm, .int .i64 xt, .float .f64 xs] 28)) (W.heap.size + 1) (some ⟨W.heap.size, 0, none⟩) (wcells ⟨xi, xc, xm, xt, xs⟩)) := Lib.hid (rd_new W (wcells ⟨xi, xc, xm, xt, xs⟩) 28)
      have HSA := Lib.hid ((HS.out.alloc (.cells #[.int .i64 xi, .int .i64 xc, .int .i64 xm, .int .i64 xt, .float .f64 xs] 62)).alloc (.cells #[.int .i64 xi, .int .i64 xc, .int .i64 xm, .int .i64 xt, .float .f64 xs] 28))
      rw [hW, World.size_alloc] at R1
      clear hs hf h1x hW
      go_wp2_with (at_builtin; refine wpList_append_sl _ rfl (.tmp 15) (.tmp 18) _ rfl w.heap.size 28 i0 _ 5 40 Try.underlying22 hi hz0 hz1 hz2 rfl (by omega) _ _ _ rfl HSA.out _ _ 1 _ _ rfl (by rfl) R1.out H1X.out (by unfold maxLen; omega) (by omega) (by simp; omega) ?_; intro v1 w1 hs1 hf1 ha1)
      have HS1 : Hid (Sl w1 w.heap.size 28 5 v1 (i + 1) ((l.take (i + 1)).flatMap wcells)) := Lib.hid (by rw [HT.out]; exact hs1)
      have HF1 : Hid (Fresh w w1) := Lib.hid (((HF.out.alloc _).alloc _).trans' hf1 (fun i hi hk => by have := (HSA.out.lt _ hk).1; omega))
      clear hs1 hf1 ha1
      go_wp2_with fail
      go_roundw
      case rel => exact ⟨i + 1, _, rfl, by omega, by go_num, HS1.out, HF1.out⟩
      case measure => simp [intOf]; omega
    · obtain rfl : i = l.length := by omega
      have HT := Lib.hid (show l.take l.length = l from List.take_length)
      clear hs hf
      go_wp2_with fail
      go_ret
      exact ⟨_, rfl, by have := HS.out; rw [HT.out] at this; exact this, HF.out⟩
end Go.Proofs.Ythofodjklogfgaa

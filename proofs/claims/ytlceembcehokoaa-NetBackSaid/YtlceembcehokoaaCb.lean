/- Co4, Co5. (Put together by mg.py.) -/
import Derived.Test.YtlceembcehokoaaCa
import Derived.Test.YtlceembcehokoaaCr
namespace Go.Proofs.Ytlceembcehokoaa
open Go.RowKit
set_option linter.unusedVariables false
set_option maxRecDepth 100000

set_option maxHeartbeats 2000000 in
theorem putC_any (w : World) (p : Nat) (A : Option Addr) (c : Nat) (bs : List UInt8) (ns : List Nat) (hns : ∀ n ∈ ns, n ≤ 1099511627776) (hnl : ns.length ≤ 2000) (hg : ∀ wr xs, Wrote w p xs wr → Rd wr wr.heap.size A (ns.map fun n : Nat => Value.int .i64 (n : Int))) (h : Buf w p bs) (hl : bs.length ≤ 1000000000000) :
    Calls Try.prog 77 #[.slice A ns.length c, .pointer (some ⟨p, 0, none⟩)] w fun e w' => WPost w p (bs ++ ns.flatMap FieldM.num) e w' := by
  obtain ⟨i0, hi, hz0, hz1, hz2⟩ := info_parts info_u8
  have HW0 := Lib.hid (Wrote.start h (Frm.refl (fun _ => False) w))
  have HG := Lib.hid hg
  have hpl : p < w.heap.size := by obtain ⟨_, hb, _⟩ := h; exact hb.lt
  clear h hg
  go_enter Try.func77, Try.ntmps77
  go_wp2_with fail
  go_loopw [7] (fun v7 wr => ∃ (i : Nat) (xs : List UInt8), i ≤ ns.length ∧ v7 = .int .i64 (i : Int) ∧ xs = bs ++ (ns.take i).flatMap FieldM.num ∧ Wrote w p xs wr) (fun v7 _ => ns.length - (intOf v7).toNat)
  case atStart => exact ⟨0, bs, by omega, rfl, by simp, HW0.out⟩
  case round =>
    clear HW0
    obtain ⟨i, xs, hin, rfl, hxs, hw⟩ := hrel
    have HW := Lib.hid hw
    have HXS := Lib.hid hxs
    have hi0 : (0 : Int) ≤ (i : Int) := by omega
    have hsz : w.heap.size ≤ wr.heap.size := hw.frm.size
    have hxl : xs.length ≤ 1000000100000 := by
      have := nums_le (ns.take i) (fun n hn => by have := hns n (List.mem_of_mem_take hn); omega)
      have : (ns.take i).length ≤ 2000 := by rw [List.length_take]; omega
      rw [hxs, List.length_append]
      omega
    obtain ⟨v, hb, hs⟩ := hw.buf
    clear hxs
    by_cases hlt : i < ns.length
    · have hlti : (i : Int) < (ns.length : Int) := by omega
      obtain ⟨g, o, rfl, _, hc0⟩ := (HG.out wr xs HW.out).at_ (k := i) (by simpa using hlt)
      have hcell : wr.cell? ⟨g, o + i, none⟩ = some (.int .i64 (ns[i] : Int)) := by rw [hc0, List.getElem_map]
      clear hc0
      have hnx := hns _ (List.getElem_mem hlt)
      have HT := Lib.hid (take_nums ns hlt)
      generalize ns[i] = x at hcell hnx HT
      have hx1 : IntKind.u64.wrap (x : Int) = (x : Int) := by rw [IntKind.wrap_u64]; omega
      have HN := Lib.hid (number_any x (by omega))
      have hil : (FieldM.num x).length ≤ 9 := by
        rw [FieldM.num_length]
        have := FieldM.wid_le (n := x) (by omega)
        omega
      have HB := Lib.hid hb
      have HS := Lib.hid hs
      have c0 : wr.drew.cell? ⟨p, 0, none⟩ = some v := hb.cell 0
      obtain ⟨A0, cap0, rfl, _⟩ := hs.shape
      generalize FieldM.num x = cs at HN hil HT
      clear hb hs hw
      go_wp2_with fail
      go_region_law
        ((first
          | (refine step_append_sl (by rfl) (.tmp 11) (.tmp 14) 26 (by rfl) p 5 i0 _ 1 1 Try.underlying26 hi hz0 hz1 hz2 rfl (by omega) (.slice A0 xs.length cap0) xs.length (xs.map bv) (by rfl) HSA.out _ A3 cs.length c3 (cs.map bv) (by rfl) (by rw [List.length_map, Nat.mul_one]) HS3.out.rd (bv_one _) (by unfold maxLen; omega) (by omega) (by have := HF3.out.size; omega) ?_; intro v5 w5 hs5 hf5 _; have HWN := Lib.hid (HW.out.trans (buf_put HB.out HS.out HF3.out hf5 hs5)); have hb5 : Blk w5 p 26 #[.slice A0 xs.length cap0] := (HB.out.frm HF3.out (fun f => f)).frm hf5 (fun e => HSA.out.apart (HB.out.frm HF3.out (fun f => f)) (by decide) e); have c5 : w5.cell? ⟨p, 0, none⟩ = some (.slice A0 xs.length cap0) := hb5.cell 0; have z5 := hb5.frozen 0; obtain ⟨A5, cp5, rfl, _⟩ := hs5.shape; clear hs5 hf5 hb5)
          | (go_simp; go_at_call 37; refine (HN.out _).mono ?_; rintro e w3 ⟨v3, rfl, hs3, f3⟩; obtain ⟨A3, c3, rfl, _⟩ := hs3.shape; have HS3 := Lib.hid hs3; have HF3 := Lib.hid (((Frm.refl _ wr).drew).trans f3); clear hs3 f3; have c1 : w3.cell? ⟨p, 0, none⟩ = some (.slice A0 xs.length cap0) := (HB.out.frm HF3.out (fun f => f)).cell 0; have HSA := Lib.hid (HS.out.fresh HF3.out))))
      all_goals
        go_wp2_with fail
        go_roundw
        case rel => exact ⟨i + 1, _, by omega, by go_num, by rw [HT.out, ← List.append_assoc, ← HXS.out], HWN.out⟩
        case measure => simp [intOf]; omega
    · obtain rfl : i = ns.length := by omega
      rw [List.take_length] at HXS
      go_wp2_with fail
      refine bodyPost_ret (v := .tuple #[]) (by simp [results, Try.results77, go_sem]) rfl ⟨rfl, ?_⟩
      rw [← HXS.out]
      exact HW.out

theorem risesF_pos : ∀ (zs : List Int) (last : Int), 0 ≤ last → risesF last zs = true → ∀ z ∈ zs, 0 < z ∧ z ≤ 15
  | [], _, _, _ => fun z hz => by cases hz
  | x :: r, last, h0, h => by
    rw [risesF, Bool.and_eq_true, Bool.and_eq_true, decide_eq_true_eq, decide_eq_true_eq] at h
    intro z hz
    rcases List.mem_cons.1 hz with rfl | hz
    · exact ⟨by omega, h.1.2⟩
    · exact risesF_pos r x (by omega) h.2 z hz
theorem ivs_nat {zs : List Int} (h : ∀ z ∈ zs, 0 < z ∧ z ≤ 15) : ((zs.map Int.toNat).map fun n : Nat => Value.int .i64 (n : Int)) = ivs zs := by
  rw [List.map_map]
  refine List.map_congr_left (fun z hz => ?_)
  have := h z hz
  show Value.int .i64 ((z.toNat : Nat) : Int) = _
  rw [Int.toNat_of_nonneg (by omega)]
theorem nat_small {zs : List Int} (h : ∀ z ∈ zs, 0 < z ∧ z ≤ 15) : ∀ n ∈ zs.map Int.toNat, n ≤ 1099511627776 := by
  intro n hn
  obtain ⟨z, hz, rfl⟩ := List.mem_map.1 hn
  have := h z hz
  omega
/-- a snapshot's bytes -/
def encS (i t : Int) (vs ls : List Int) (ds : List UInt8) : List UInt8 :=
  (((([i.toNat, t.toNat, vs.length].flatMap FieldM.num) ++ (vs.map Int.toNat).flatMap FieldM.num) ++ [ls.length].flatMap FieldM.num) ++ (ls.map Int.toNat).flatMap FieldM.num) ++ FieldM.text ds
/-- while a snapshot is encoded -/
structure KEnc (w : World) (bm p : Nat) (cs : Array Value) (bs : List UInt8) (wk : World) : Prop where
  box : Blk wk bm 28 cs
  buf : Buf wk p bs
  lt : bm < p
  low : w.heap.size ≤ bm
  frm : Fresh w wk
theorem KEnc.fresh {w wk w' : World} {bm p : Nat} {cs : Array Value} {bs : List UInt8} (h : KEnc w bm p cs bs wk) (F : Fresh wk w') : KEnc w bm p cs bs w' := ⟨h.box.frm F (fun f => f), h.buf.fresh F, h.lt, h.low, h.frm.trans F⟩
theorem KEnc.wrote {w wk w' : World} {bm p : Nat} {cs : Array Value} {bs ds : List UInt8} (h : KEnc w bm p cs bs wk) (F : Wrote wk p ds w') : KEnc w bm p cs ds w' :=
  ⟨h.box.frm F.frm (fun e => by have := h.lt; omega), F.buf, h.lt, h.low, h.frm.trans' F.frm (fun k hk e => by have := h.lt; have := h.low; omega)⟩
def KPost (w : World) (bm p : Nat) (cs : Array Value) (bs : List UInt8) (e : Ending) (w' : World) : Prop := e = .returned (.tuple #[]) ∧ KEnc w bm p cs bs w'
/-- numbers that were laid for the call -/
theorem KEnc.laid {w wk : World} {bm p : Nat} {cs : Array Value} {bs : List UInt8} (h : KEnc w bm p cs bs wk) (ns : List Nat) (n c : Nat) (hn : n = ns.length) (hns : ∀ n ∈ ns, n ≤ 1099511627776) (hnl : ns.length ≤ 100) (hl : bs.length ≤ 1000000000000) :
    Calls Try.prog 77 #[.slice (some ⟨wk.heap.size, 0, none⟩) n c, .pointer (some ⟨p, 0, none⟩)] (wk.alloc (.cells (ns.map fun n : Nat => Value.int .i64 (n : Int)).toArray 3)) fun e w' => KPost w bm p cs (bs ++ ns.flatMap FieldM.num) e w' := by
  subst hn
  have h2 := h.fresh ((Frm.refl _ wk).alloc (.cells (ns.map fun n : Nat => Value.int .i64 (n : Int)).toArray 3))
  refine (putC_any _ p (some ⟨wk.heap.size, 0, none⟩) c bs ns hns (by omega) (fun wr xs hw => ?_) h2.buf hl).mono ?_
  · have hb := hw.keep _ _ _ (by decide) (by decide) (Blk.new wk 3 (ns.map fun n : Nat => Value.int .i64 (n : Int)).toArray)
    exact fun _ => ⟨_, _, rfl, hb.lt, fun j u hu => by rw [hb.cell, Nat.zero_add]; simpa using hu⟩
  · rintro e w' ⟨rfl, hw⟩
    exact ⟨rfl, h2.wrote hw⟩
/-- numbers that came in -/
theorem KEnc.came {w wk : World} {bm p : Nat} {cs : Array Value} {bs : List UInt8} (h : KEnc w bm p cs bs wk) (A : Option Addr) (zs : List Int) (n c : Nat) (hn : n = zs.length) (hr : Rd w w.heap.size A (ivs zs)) (hz : ∀ z ∈ zs, 0 < z ∧ z ≤ 15) (hnl : zs.length ≤ 1000) (hl : bs.length ≤ 1000000000000) :
    Calls Try.prog 77 #[.slice A n c, .pointer (some ⟨p, 0, none⟩)] wk fun e w' => KPost w bm p cs (bs ++ (zs.map Int.toNat).flatMap FieldM.num) e w' := by
  have e : n = (zs.map Int.toNat).length := by rw [hn, List.length_map]
  subst e
  refine (putC_any wk p A c bs (zs.map Int.toNat) (nat_small hz) (by rw [List.length_map]; omega) (fun wr xs hw => ?_) h.buf hl).mono ?_
  · rw [ivs_nat hz]
    have h1 := hr.fresh (Nat.le_refl _) h.frm
    have hlt := h.lt
    have hlow := h.low
    refine (h1.frm (S := fun k => p ≤ k) h.frm.size hw.frm (fun q _ hq e => ?_)).more (by have := h.frm.size; have := hw.frm.size; omega)
    omega
  · rintro e w' ⟨rfl, hw⟩
    exact ⟨rfl, h.wrote hw⟩
theorem nums_small (zs : List Nat) (h : ∀ n ∈ zs, n ≤ 1099511627776) : (zs.flatMap FieldM.num).length ≤ 9 * zs.length := nums_le zs (fun n hn => by have := h n hn; omega)

theorem keepEncode_no (w : World) (i t : Int) (AV AL AD : Option Addr) (cv cl cd : Nat) (vs ls : List Int) (ds : List UInt8) (h : RdS w AV AL AD vs ls ds) (hr : rightS i t vs ls ds = false) :
    Calls Try.prog 35 #[.agg #[.int .i64 i, .int .i64 t, .slice AV vs.length cv, .slice AL ls.length cl, .slice AD ds.length cd]] w fun e w' => e = .returned (.tuple #[.slice none 0 0, .int .i64 1]) ∧ Fresh w w' := by
  obtain ⟨W, hW⟩ : ∃ W, w.alloc (.cells #[.int .i64 i, .int .i64 t, .slice AV vs.length cv, .slice AL ls.length cl, .slice AD ds.length cd] 28) = W := ⟨_, rfl⟩
  have hFW : Fresh w W := by rw [← hW]; exact (Frm.refl _ w).alloc _
  have hBX : Blk W w.heap.size 28 #[.int .i64 i, .int .i64 t, .slice AV vs.length cv, .slice AL ls.length cl, .slice AD ds.length cd] := by rw [← hW]; exact Blk.new w _ _
  have HF := Lib.hid hFW
  have BX := Lib.hid hBX
  have y0 : W.cell? ⟨w.heap.size, 0, none⟩ = some (.int .i64 i) := hBX.cell 0
  have y1 : W.cell? ⟨w.heap.size, 1, none⟩ = some (.int .i64 t) := hBX.cell 1
  have y2 : W.cell? ⟨w.heap.size, 2, none⟩ = some (.slice AV vs.length cv) := hBX.cell 2
  have y3 : W.cell? ⟨w.heap.size, 3, none⟩ = some (.slice AL ls.length cl) := hBX.cell 3
  have y4 : W.cell? ⟨w.heap.size, 4, none⟩ = some (.slice AD ds.length cd) := hBX.cell 4
  clear hFW hBX
  have HR := Lib.hid (keepRight_any W i t AV AL AD cv cl cd vs ls ds (h.fresh HF.out))
  rw [hr] at HR
  clear h hr
  go_enter Try.func35, Try.ntmps35
  go_wp2_with fail
  clear hW
  refine HR.out.mono ?_
  rintro e w1 ⟨rfl, f1⟩
  have HF1 := Lib.hid (HF.out.trans f1)
  clear f1
  go_wp2_with fail
  go_ret2
  exact ⟨rfl, HF1.out⟩
def EncSPost (w : World) (bs : List UInt8) (e : Ending) (w' : World) : Prop :=
  ∃ v, e = .returned (.tuple #[v, .int .i64 0]) ∧ Sl w' w.heap.size 5 1 v bs.length (bs.map bv) ∧ Fresh w w'
set_option maxHeartbeats 8000000 in
theorem keepEncode_yes (w : World) (i t : Int) (AV AL AD : Option Addr) (cv cl cd : Nat) (vs ls : List Int) (ds : List UInt8) (h : RdS w AV AL AD vs ls ds) (hr : rightS i t vs ls ds = true) :
    Calls Try.prog 35 #[.agg #[.int .i64 i, .int .i64 t, .slice AV vs.length cv, .slice AL ls.length cl, .slice AD ds.length cd]] w fun e w' => EncSPost w (encS i t vs ls ds) e w' := by
  have hmf : ∀ (fn : Fn) (first cap : Array Value) (w : World), (Instr.makeFunc fn first cap).run Try.prog w = .ok (.func fn first cap) w := fun _ _ _ _ => rfl
  obtain ⟨i0, hi, hz0, hz1, hz2⟩ := info_parts info_u8
  obtain ⟨W, hW⟩ : ∃ W, w.alloc (.cells #[.int .i64 i, .int .i64 t, .slice AV vs.length cv, .slice AL ls.length cl, .slice AD ds.length cd] 28) = W := ⟨_, rfl⟩
  have hFW : Fresh w W := by rw [← hW]; exact (Frm.refl _ w).alloc _
  have hBX : Blk W w.heap.size 28 #[.int .i64 i, .int .i64 t, .slice AV vs.length cv, .slice AL ls.length cl, .slice AD ds.length cd] := by rw [← hW]; exact Blk.new w _ _
  have HF := Lib.hid hFW
  have BX := Lib.hid hBX
  have y0 : W.cell? ⟨w.heap.size, 0, none⟩ = some (.int .i64 i) := hBX.cell 0
  have y1 : W.cell? ⟨w.heap.size, 1, none⟩ = some (.int .i64 t) := hBX.cell 1
  have y2 : W.cell? ⟨w.heap.size, 2, none⟩ = some (.slice AV vs.length cv) := hBX.cell 2
  have y3 : W.cell? ⟨w.heap.size, 3, none⟩ = some (.slice AL ls.length cl) := hBX.cell 3
  have y4 : W.cell? ⟨w.heap.size, 4, none⟩ = some (.slice AD ds.length cd) := hBX.cell 4
  clear hFW hBX
  have HR := Lib.hid (keepRight_any W i t AV AL AD cv cl cd vs ls ds (h.fresh HF.out))
  rw [hr] at HR
  have hn : (0 ≤ i ∧ i ≤ 1099511627776) ∧ (0 ≤ t ∧ t ≤ 1099511627776) ∧ ds.length ≤ 60000 := by
    unfold rightS numS at hr
    rw [Bool.and_eq_true] at hr
    exact of_decide_eq_true hr.1
  have hg : groupS vs ls = true := by
    unfold rightS at hr
    rw [Bool.and_eq_true] at hr
    exact hr.2
  have hv : ∀ z ∈ vs, 0 < z ∧ z ≤ 15 := by
    unfold groupS at hg
    rw [Bool.and_eq_true, Bool.and_eq_true, Bool.and_eq_true] at hg
    exact risesF_pos vs 0 (by omega) hg.1.1.1
  have hl : ∀ z ∈ ls, 0 < z ∧ z ≤ 15 := by
    unfold groupS at hg
    rw [Bool.and_eq_true, Bool.and_eq_true, Bool.and_eq_true] at hg
    exact risesF_pos ls 0 (by omega) hg.1.1.2
  have q1 := h.vl
  have q2 := h.ll
  have hds := hn.2.2
  obtain ⟨a, rfl⟩ := Int.eq_ofNat_of_zero_le hn.1.1
  obtain ⟨b, rfl⟩ := Int.eq_ofNat_of_zero_le hn.2.1.1
  have ha : (a : Int) ≤ 1099511627776 := hn.1.2
  have hb : (b : Int) ≤ 1099511627776 := hn.2.1.2
  have HH := Lib.hid h
  have HV := Lib.hid hv
  have HL := Lib.hid hl
  have HE : Hid (encS (a : Int) (b : Int) vs ls ds = (((([a, b, vs.length].flatMap FieldM.num) ++ (vs.map Int.toNat).flatMap FieldM.num) ++ [ls.length].flatMap FieldM.num) ++ (ls.map Int.toNat).flatMap FieldM.num) ++ FieldM.text ds) := Lib.hid rfl
  have N1 : ∀ n ∈ [a, b, vs.length], n ≤ 1099511627776 := fun n hn => by
    simp only [List.mem_cons, List.not_mem_nil, or_false] at hn
    omega
  have N2 : ∀ n ∈ [ls.length], n ≤ 1099511627776 := fun n hn => by
    rw [List.mem_singleton] at hn
    omega
  have L1 := nums_small _ N1
  have L2 := nums_small _ (nat_small hv)
  have L3 := nums_small _ N2
  have L4 := nums_small _ (nat_small hl)
  rw [List.length_map] at L2 L4
  have HL1 : Hid (([a, b, vs.length].flatMap FieldM.num).length ≤ 27) := Lib.hid (by simpa using L1)
  have HL2 : Hid (((vs.map Int.toNat).flatMap FieldM.num).length ≤ 9000) := Lib.hid (by omega)
  have HL3 : Hid (([ls.length].flatMap FieldM.num).length ≤ 9) := Lib.hid (by simpa using L3)
  have HL4 : Hid (((ls.map Int.toNat).flatMap FieldM.num).length ≤ 9000) := Lib.hid (by omega)
  have HN1 := Lib.hid N1
  have HN2 := Lib.hid N2
  clear h hr hn hg hv hl N1 N2 L1 L2 L3 L4
  go_enter Try.func35, Try.ntmps35
  go_wp2_with fail
  clear hW y0 y1 y2 y3 y4
  refine HR.out.mono ?_
  rintro e w1 ⟨rfl, f1⟩
  have b1 := BX.out.frm f1 (fun f => f)
  obtain ⟨bm, hbm⟩ : ∃ bm, w.heap.size = bm := ⟨_, rfl⟩
  have hbml : bm < w1.heap.size := by rw [← hbm]; exact b1.lt
  obtain ⟨W4, hW4⟩ : ∃ W4, w1.alloc (.cells #[.slice none 0 0] 26) = W4 := ⟨_, rfl⟩
  have HE4 : Hid (KEnc w bm w1.heap.size #[.int .i64 (a : Int), .int .i64 (b : Int), .slice AV vs.length cv, .slice AL ls.length cl, .slice AD ds.length cd] [] W4) := Lib.hid (by
    rw [← hW4, ← hbm]
    exact ⟨b1.alloc _, ⟨_, Blk.new w1 _ _, Sl.nil _ _ _ _⟩, by rw [hbm]; exact hbml, Nat.le_refl _, (HF.out.trans f1).alloc _⟩)
  rw [hbm]
  have k0 : W4.cell? ⟨bm, 0, none⟩ = some (.int .i64 (a : Int)) := HE4.out.box.cell 0
  have k1 : W4.cell? ⟨bm, 1, none⟩ = some (.int .i64 (b : Int)) := HE4.out.box.cell 1
  have k2 : W4.cell? ⟨bm, 2, none⟩ = some (.slice AV vs.length cv) := HE4.out.box.cell 2
  have k3 : W4.cell? ⟨bm, 3, none⟩ = some (.slice AL ls.length cl) := HE4.out.box.cell 3
  have k4 : W4.cell? ⟨bm, 4, none⟩ = some (.slice AD ds.length cd) := HE4.out.box.cell 4
  clear f1 b1
  go_wp2_with fail
  clear hW4
  generalize w1.heap.size = p at HE4 hbml ⊢
  refine (HE4.out.laid [a, b, vs.length] 3 3 rfl HN1.out (by simp) (by simp)).mono ?_
  rintro e w5 ⟨rfl, h5⟩
  rw [List.nil_append] at h5
  have HE5 := Lib.hid h5
  have k2_5 : w5.cell? ⟨bm, 2, none⟩ = some (.slice AV vs.length cv) := h5.box.cell 2
  clear h5 k0 k1 k2 k3 k4
  go_wp2_with fail
  refine (HE5.out.came AV vs vs.length cv rfl HH.out.rv HV.out (by omega) (by have := HL1.out; omega)).mono ?_
  rintro e w6 ⟨rfl, h6⟩
  have HE6 := Lib.hid h6
  have k3_6 : w6.cell? ⟨bm, 3, none⟩ = some (.slice AL ls.length cl) := h6.box.cell 3
  clear h6 k2_5
  go_wp2_with fail
  refine (HE6.out.laid [ls.length] 1 1 rfl HN2.out (by simp) (by have := HL1.out; have := HL2.out; rw [List.length_append]; omega)).mono ?_
  rintro e w7 ⟨rfl, h7⟩
  have HE7 := Lib.hid h7
  have k3_7 : w7.cell? ⟨bm, 3, none⟩ = some (.slice AL ls.length cl) := h7.box.cell 3
  clear h7 k3_6
  go_wp2_with fail
  refine (HE7.out.came AL ls ls.length cl rfl HH.out.rl HL.out (by omega) (by have := HL1.out; have := HL2.out; have := HL3.out; rw [List.length_append, List.length_append]; omega)).mono ?_
  rintro e w8 ⟨rfl, h8⟩
  obtain ⟨B, hB⟩ : ∃ B, B = (((([a, b, vs.length].flatMap FieldM.num) ++ (vs.map Int.toNat).flatMap FieldM.num) ++ [ls.length].flatMap FieldM.num) ++ (ls.map Int.toNat).flatMap FieldM.num) := ⟨_, rfl⟩
  rw [← hB] at h8 HE
  have hBl : B.length ≤ 20000 := by
    have := HL1.out
    have := HL2.out
    have := HL3.out
    have := HL4.out
    rw [hB, List.length_append, List.length_append, List.length_append]
    omega
  have HE8 := Lib.hid h8
  obtain ⟨v8, hb8, hs8⟩ := h8.buf
  obtain ⟨A8, c8, rfl, _⟩ := hs8.shape
  have HB8 := Lib.hid hb8
  have HS8 := Lib.hid hs8
  have m0 : w8.drew.cell? ⟨p, 0, none⟩ = some (.slice A8 B.length c8) := hb8.cell 0
  have m4 : w8.drew.cell? ⟨bm, 4, none⟩ = some (.slice AD ds.length cd) := h8.box.cell 4
  have HT := Lib.hid (text_any AD cd ds w8.drew (((HH.out.rd.fresh (Nat.le_refl _) h8.frm).more h8.frm.size).drew) (by omega))
  have htl : (FieldM.text ds).length ≤ 10 + ds.length := by
    rw [FieldM.text_length]
    have := FieldM.wid_le (n := ds.length) (by omega)
    omega
  generalize FieldM.text ds = ts at HT HE htl
  have hwp : w.heap.size ≤ p := by have := HE8.out.lt; have := HE8.out.low; omega
  have hcell3 : ∀ w3, Fresh w8.drew w3 → w3.cell? ⟨p, 0, none⟩ = some (.slice A8 B.length c8) ∧ w3.cell? ⟨bm, 4, none⟩ = some (.slice AD ds.length cd) := fun w3 K => ⟨(HB8.out.frm ((Frm.refl (fun _ => False) w8).drew.trans K) (fun f => f)).cell 0, (HE8.out.box.frm ((Frm.refl (fun _ => False) w8).drew.trans K) (fun f => f)).cell 4⟩
  have HC3 := Lib.hid hcell3
  clear h8 hb8 hs8 hB k3_7 hcell3
  go_wp2_with fail
  go_region_law
    ((first
      | (refine step_append_sl (by rfl) (.tmp 38) (.tmp 41) 26 (by rfl) w.heap.size 5 i0 _ 1 1 Try.underlying26 hi hz0 hz1 hz2 rfl (by omega) (.slice A8 B.length c8) B.length (B.map bv) (by rfl) HSA.out _ A3 ts.length c3 (ts.map bv) (by rfl) (by rw [List.length_map, Nat.mul_one]) HS3.out.rd (bv_one _) (by unfold maxLen; omega) (by omega) (by have := HF3.out.size; have := HE8.out.frm.size; omega) ?_; intro v5 w5 hs5 hf5 _; have HS5 := Lib.hid hs5; have HF5 : Hid (Fresh w w5) := Lib.hid (((HE8.out.frm.trans HF3.out)).trans' hf5 (fun k hk e => by have := (HS8.out.lt k e).1; omega)); obtain ⟨A5, cp5, rfl, _⟩ := hs5.shape; clear hs5 hf5)
      | (go_simp; go_at_call 41; refine HT.out.mono ?_; rintro e w3 ⟨v3, rfl, hs3, f3⟩; obtain ⟨A3, c3, rfl, _⟩ := hs3.shape; have HS3 := Lib.hid hs3; have HF3 := Lib.hid (((Frm.refl (fun _ => False) w8).drew).trans f3); have hm := HC3.out _ f3; have m1 : w3.cell? ⟨p, 0, none⟩ = some (.slice A8 B.length c8) := hm.1; clear hs3 f3 hm; have HSA := Lib.hid ((HS8.out.fresh HF3.out).less (B' := w.heap.size) hwp))))
  all_goals
    go_wp2_with fail
    go_ret2
    refine ⟨_, rfl, ?_, HF5.out⟩
    rw [HE.out, List.length_append, List.map_append]
    exact HS5.out
end Go.Proofs.Ytlceembcehokoaa
namespace Go.Proofs.Ytlceembcehokoaa
open Go.RowKit
set_option linter.unusedVariables false
set_option maxRecDepth 100000

theorem num_le9 {n : Nat} (h : n ≤ 1099511627776) : (FieldM.num n).length ≤ 9 := by
  rw [FieldM.num_length]
  have := FieldM.wid_le (n := n) (by omega)
  omega
theorem text_le {ts : List UInt8} (h : ts.length ≤ 1000000000000) : (FieldM.text ts).length ≤ 10 + ts.length := by
  rw [FieldM.text_length]
  have := FieldM.wid_le (n := ts.length) (by omega)
  omega
def encL (zs : List Int) : List UInt8 := FieldM.num zs.length ++ (zs.map Int.toNat).flatMap FieldM.num
theorem encL_le {zs : List Int} (h : ∀ z ∈ zs, 0 < z ∧ z ≤ 15) (hl : zs.length ≤ 1000) : (encL zs).length ≤ 9009 := by
  have h1 := nums_small _ (nat_small h)
  rw [List.length_map] at h1
  have h2 := num_le9 (n := zs.length) (by omega)
  unfold encL
  rw [List.length_append]
  omega
set_option maxHeartbeats 4000000 in
theorem refNumbers_any (w : World) (A : Option Addr) (cap : Nat) (zs : List Int) (hA : Rd w w.heap.size A (ivs zs)) (hz : ∀ z ∈ zs, 0 < z ∧ z ≤ 15) (hl : zs.length ≤ 1000) :
    Calls Try.prog 86 #[.slice A zs.length cap] w fun e w' => ∃ v, e = .returned v ∧ Sl w' w.heap.size 5 1 v (encL zs).length ((encL zs).map bv) ∧ Fresh w w' := by
  obtain ⟨i0, hi, hz0, hz1, hz2⟩ := info_parts info_u8
  have HA := Lib.hid hA
  have HZ := Lib.hid hz
  have hwl : IntKind.u64.wrap (zs.length : Int) = (zs.length : Int) := by rw [IntKind.wrap_u64]; omega
  clear hA hz
  go_enter Try.func86, Try.ntmps86
  go_wp2_with fail
  refine (refNumber_any zs.length (by omega) w).mono ?_
  rintro e w1 ⟨v1, rfl, hs1, f1⟩
  have HS1 := Lib.hid hs1
  have HF1 := Lib.hid f1
  clear hs1 f1
  go_wp2_with fail
  go_loopw [3, 4] (fun v3 v4 wr => ∃ (i : Nat) (Q : List UInt8), i ≤ zs.length ∧ v4 = .int .i64 (i : Int) ∧ Q = FieldM.num zs.length ++ ((zs.map Int.toNat).take i).flatMap FieldM.num ∧ Q.length ≤ 9 + 9 * i ∧ Sl wr w.heap.size 5 1 v3 Q.length (Q.map bv) ∧ Fresh w wr) (fun _ v4 _ => zs.length - (intOf v4).toNat)
  case atStart => exact ⟨0, FieldM.num zs.length, by omega, rfl, by simp, by have := num_le9 (n := zs.length) (by omega); omega, HS1.out, HF1.out⟩
  case round =>
    clear HS1 HF1
    obtain ⟨i, Q, hin, rfl, hQ, hQl, hs, hf⟩ := hrel
    have HQ := Lib.hid hQ
    have HS := Lib.hid hs
    have HF := Lib.hid hf
    have hi0 : (0 : Int) ≤ (i : Int) := by omega
    clear hQ
    by_cases hlt : i < zs.length
    · have hlti : (i : Int) < (zs.length : Int) := by omega
      obtain ⟨b, o, rfl, _, hc⟩ := (HA.out.fresh (Nat.le_refl _) hf).at_ (k := i) (by simpa using hlt)
      rw [List.getElem_map] at hc
      have HTK := Lib.hid (take_nums (zs.map Int.toNat) (j := i) (by simpa using hlt))
      rw [List.getElem_map] at HTK
      have hzi := HZ.out _ (List.getElem_mem hlt)
      generalize zs[i] = z at hc hzi HTK
      obtain ⟨n, rfl⟩ := Int.eq_ofNat_of_zero_le (show 0 ≤ z by omega)
      rw [Int.toNat_natCast] at HTK
      have hwn : IntKind.u64.wrap (n : Int) = (n : Int) := by rw [IntKind.wrap_u64]; omega
      have hn9 := num_le9 (n := n) (by omega)
      clear hs hf
      go_wp2_with fail
      refine (refNumber_any n (by omega) wr).mono ?_
      rintro e w5 ⟨v5, rfl, hs5, f5⟩
      have HS5 := Lib.hid hs5
      have HSQ5 := Lib.hid (HS.out.fresh f5)
      have HF5 := Lib.hid (HF.out.trans f5)
      obtain ⟨A5, c5, rfl, _⟩ := hs5.shape
      clear hs5 f5 hc
      go_wp2_with (at_builtin; refine wpList_append_sl _ rfl (.tmp 15) (.tmp 21) _ rfl w.heap.size 5 i0 _ 1 1 Try.underlying26 hi hz0 hz1 hz2 rfl (by omega) _ Q.length _ rfl HSQ5.out w5.heap.size A5 (FieldM.num n).length c5 ((FieldM.num n).map bv) rfl (by rw [List.length_map, Nat.mul_one]) HS5.out.rd (bv_one _) (by unfold maxLen; omega) (by omega) HF5.out.size ?_; intro v6 w6 hs6 hf6 ha6)
      have HS6 : Hid (Sl w6 w.heap.size 5 1 v6 (Q ++ FieldM.num n).length ((Q ++ FieldM.num n).map bv)) := Lib.hid (by rw [List.length_append, List.map_append]; exact hs6)
      have HF6 : Hid (Fresh w w6) := Lib.hid (HF5.out.trans' hf6 (fun k hk e => by have := (HSQ5.out.lt k e).1; omega))
      clear hs6 hf6 ha6
      go_roundw
      case rel => exact ⟨i + 1, Q ++ FieldM.num n, by omega, by go_num, by rw [HTK.out, ← List.append_assoc, ← HQ.out], by rw [List.length_append]; omega, HS6.out, HF6.out⟩
      case measure => simp [intOf]; omega
    · obtain rfl : i = zs.length := by omega
      rw [List.take_of_length_le (by simp)] at HQ
      clear hs hf
      go_wp2_with fail
      go_ret
      refine ⟨_, rfl, ?_, HF.out⟩
      unfold encL
      rw [← HQ.out]
      exact HS.out
theorem refEncS_no (w : World) (i t : Int) (AV AL AD : Option Addr) (cv cl cd : Nat) (vs ls : List Int) (ds : List UInt8) (h : RdS w AV AL AD vs ls ds) (hr : rightS i t vs ls ds = false) :
    Calls Try.prog 48 #[.agg #[.int .i64 i, .int .i64 t, .slice AV vs.length cv, .slice AL ls.length cl, .slice AD ds.length cd]] w fun e w' => e = .returned (.tuple #[.slice none 0 0, .int .i64 1]) ∧ Fresh w w' := by
  obtain ⟨W, hW⟩ : ∃ W, w.alloc (.cells #[.int .i64 i, .int .i64 t, .slice AV vs.length cv, .slice AL ls.length cl, .slice AD ds.length cd] 28) = W := ⟨_, rfl⟩
  have hFW : Fresh w W := by rw [← hW]; exact (Frm.refl _ w).alloc _
  have hBX : Blk W w.heap.size 28 #[.int .i64 i, .int .i64 t, .slice AV vs.length cv, .slice AL ls.length cl, .slice AD ds.length cd] := by rw [← hW]; exact Blk.new w _ _
  have HF := Lib.hid hFW
  have BX := Lib.hid hBX
  have y0 : W.cell? ⟨w.heap.size, 0, none⟩ = some (.int .i64 i) := hBX.cell 0
  have y1 : W.cell? ⟨w.heap.size, 1, none⟩ = some (.int .i64 t) := hBX.cell 1
  have y2 : W.cell? ⟨w.heap.size, 2, none⟩ = some (.slice AV vs.length cv) := hBX.cell 2
  have y3 : W.cell? ⟨w.heap.size, 3, none⟩ = some (.slice AL ls.length cl) := hBX.cell 3
  have y4 : W.cell? ⟨w.heap.size, 4, none⟩ = some (.slice AD ds.length cd) := hBX.cell 4
  clear hFW hBX
  have HR := Lib.hid (refRightSnap_any W i t AV AL AD cv cl cd vs ls ds (h.fresh HF.out))
  rw [hr] at HR
  clear h hr
  go_enter Try.func48, Try.ntmps48
  go_wp2_with fail
  clear hW
  refine HR.out.mono ?_
  rintro e w1 ⟨rfl, f1⟩
  have HF1 := Lib.hid (HF.out.trans f1)
  clear f1
  go_wp2_with fail
  go_ret2
  exact ⟨rfl, HF1.out⟩
set_option maxHeartbeats 8000000 in
theorem refEncS_yes (w : World) (i t : Int) (AV AL AD : Option Addr) (cv cl cd : Nat) (vs ls : List Int) (ds : List UInt8) (h : RdS w AV AL AD vs ls ds) (hr : rightS i t vs ls ds = true) :
    Calls Try.prog 48 #[.agg #[.int .i64 i, .int .i64 t, .slice AV vs.length cv, .slice AL ls.length cl, .slice AD ds.length cd]] w fun e w' => EncSPost w (encS i t vs ls ds) e w' := by
  obtain ⟨i0, hi, hz0, hz1, hz2⟩ := info_parts info_u8
  obtain ⟨W, hW⟩ : ∃ W, w.alloc (.cells #[.int .i64 i, .int .i64 t, .slice AV vs.length cv, .slice AL ls.length cl, .slice AD ds.length cd] 28) = W := ⟨_, rfl⟩
  have hFW : Fresh w W := by rw [← hW]; exact (Frm.refl _ w).alloc _
  have hBX : Blk W w.heap.size 28 #[.int .i64 i, .int .i64 t, .slice AV vs.length cv, .slice AL ls.length cl, .slice AD ds.length cd] := by rw [← hW]; exact Blk.new w _ _
  have HF := Lib.hid hFW
  have BX := Lib.hid hBX
  have y0 : W.cell? ⟨w.heap.size, 0, none⟩ = some (.int .i64 i) := hBX.cell 0
  have y1 : W.cell? ⟨w.heap.size, 1, none⟩ = some (.int .i64 t) := hBX.cell 1
  have y2 : W.cell? ⟨w.heap.size, 2, none⟩ = some (.slice AV vs.length cv) := hBX.cell 2
  have y3 : W.cell? ⟨w.heap.size, 3, none⟩ = some (.slice AL ls.length cl) := hBX.cell 3
  have y4 : W.cell? ⟨w.heap.size, 4, none⟩ = some (.slice AD ds.length cd) := hBX.cell 4
  clear hFW hBX
  have HR := Lib.hid (refRightSnap_any W i t AV AL AD cv cl cd vs ls ds (h.fresh HF.out))
  rw [hr] at HR
  have hn : (0 ≤ i ∧ i ≤ 1099511627776) ∧ (0 ≤ t ∧ t ≤ 1099511627776) ∧ ds.length ≤ 60000 := by
    unfold rightS numS at hr
    rw [Bool.and_eq_true] at hr
    exact of_decide_eq_true hr.1
  have hg : groupS vs ls = true := by
    unfold rightS at hr
    rw [Bool.and_eq_true] at hr
    exact hr.2
  have hv : ∀ z ∈ vs, 0 < z ∧ z ≤ 15 := by
    unfold groupS at hg
    rw [Bool.and_eq_true, Bool.and_eq_true, Bool.and_eq_true] at hg
    exact risesF_pos vs 0 (by omega) hg.1.1.1
  have hl : ∀ z ∈ ls, 0 < z ∧ z ≤ 15 := by
    unfold groupS at hg
    rw [Bool.and_eq_true, Bool.and_eq_true, Bool.and_eq_true] at hg
    exact risesF_pos ls 0 (by omega) hg.1.1.2
  have q1 := h.vl
  have q2 := h.ll
  have hds := hn.2.2
  obtain ⟨a, rfl⟩ := Int.eq_ofNat_of_zero_le hn.1.1
  obtain ⟨b, rfl⟩ := Int.eq_ofNat_of_zero_le hn.2.1.1
  have ha : (a : Int) ≤ 1099511627776 := hn.1.2
  have hb : (b : Int) ≤ 1099511627776 := hn.2.1.2
  have HH := Lib.hid (h.fresh HF.out)
  have HV := Lib.hid hv
  have HL := Lib.hid hl
  have HE : Hid (encS (a : Int) (b : Int) vs ls ds = (((FieldM.num a ++ FieldM.num b) ++ encL vs) ++ encL ls) ++ FieldM.text ds) := Lib.hid (by
    unfold encS encL
    simp [List.append_assoc])
  have hwa : IntKind.u64.wrap (a : Int) = (a : Int) := by rw [IntKind.wrap_u64]; omega
  have hwb : IntKind.u64.wrap (b : Int) = (b : Int) := by rw [IntKind.wrap_u64]; omega
  have HN1 := Lib.hid (fun w => refNumber_any a (by omega) w)
  have HN2 := Lib.hid (fun w => refNumber_any b (by omega) w)
  have l1 := num_le9 (n := a) (by omega)
  have l2 := num_le9 (n := b) (by omega)
  clear h hr hn hg hv hl
  go_enter Try.func48, Try.ntmps48
  go_wp2_with fail
  clear hW y0 y1 y2 y3 y4
  refine HR.out.mono ?_
  rintro e w0 ⟨rfl, f0⟩
  have HF0 := Lib.hid f0
  have k0 : w0.drew.cell? ⟨w.heap.size, 0, none⟩ = some (.int .i64 (a : Int)) := (BX.out.frm f0 (fun f => f)).cell 0
  have k1 : w0.drew.cell? ⟨w.heap.size, 1, none⟩ = some (.int .i64 (b : Int)) := (BX.out.frm f0 (fun f => f)).cell 1
  clear f0
  go_upto_region 4 with fail
  go_cut [5] from 6 (fun s5 wx => Sl wx W.heap.size 5 1 s5 (FieldM.num a ++ FieldM.num b).length ((FieldM.num a ++ FieldM.num b).map bv) ∧ Fresh W wx)
  case first =>
    generalize FieldM.num a = na at *
    generalize FieldM.num b = nb at *
    go_region_law
      ((first
        | (refine step_append_sl (by rfl) (.tmp 13) (.tmp 17) 26 (by rfl) W.heap.size 5 i0 _ 1 1 Try.underlying26 hi hz0 hz1 hz2 rfl (by omega) (.slice A3 na.length c3) na.length (na.map bv) (by rfl) HSA.out _ A4 nb.length c4 (nb.map bv) (by rfl) (by rw [List.length_map, Nat.mul_one]) HS4.out.rd (bv_one _) (by unfold maxLen; omega) (by omega) HF4.out.size ?_; intro v5 w5 hs5 hf5 _; have HS5 := Lib.hid hs5; have HF5 : Hid (Fresh W w5) := Lib.hid (HF4.out.trans' hf5 (fun k hk e => by have := (HSA.out.lt k e).1; omega)); clear hs5 hf5)
        | (have hq3 := HF3.out; clear hq3; go_simp; go_at_call 44; refine (HN2.out _).mono ?_; rintro e w4 ⟨v4, rfl, hs4, f4⟩; obtain ⟨A4, c4, rfl, _⟩ := hs4.shape; have HS4 := Lib.hid hs4; have HF4 := Lib.hid (HF3.out.trans f4); have HSA := Lib.hid (HS3.out.fresh f4); clear hs4 f4)
        | (go_simp; go_at_call 44; refine (HN1.out _).mono ?_; rintro e w3 ⟨v3, rfl, hs3, f3⟩; obtain ⟨A3, c3, rfl, _⟩ := hs3.shape; have HF3 := Lib.hid ((HF0.out.drew).trans f3); have HS3 := Lib.hid (hs3.less (B' := W.heap.size) HF0.out.drew.size); have k13 : w3.cell? ⟨w.heap.size, 1, none⟩ = some (.int .i64 (b : Int)) := (BX.out.frm HF3.out (fun f => f)).cell 1; clear hs3 f3)))
    all_goals
      go_wp2_with fail
      go_meet
      exact ⟨by rw [List.length_append, List.map_append]; exact HS5.out, HF5.out⟩
  case rest =>
    obtain ⟨hs1, f1⟩ := hcut
    obtain ⟨w1, hw1⟩ : ∃ w1, wc = w1 := ⟨_, rfl⟩
    rw [hw1] at hs1 f1 ⊢
    clear hw1
    obtain ⟨A1, c1, rfl, _⟩ := hs1.shape
    obtain ⟨B1, hB1⟩ : ∃ B1, B1 = FieldM.num a ++ FieldM.num b := ⟨_, rfl⟩
    rw [← hB1] at hs1 HE ⊢
    have bl1 : B1.length ≤ 18 := by rw [hB1, List.length_append]; omega
    have HS1 := Lib.hid hs1
    have HF1 := Lib.hid f1
    have k2_w1 : w1.cell? ⟨w.heap.size, 2, none⟩ = some (.slice AV vs.length cv) := (BX.out.frm f1 (fun f => f)).cell 2
    clear hB1 hs1 f1 HN1 HN2 HF0 k0 k1
    go_wp2_with fail
    refine (refNumbers_any w1 AV cv vs (((HH.out.rv.fresh (Nat.le_refl _) HF1.out).more HF1.out.size)) HV.out (by omega)).mono ?_
    rintro e x2 ⟨y2, rfl, hy, fy⟩
    obtain ⟨D2, d2, rfl, _⟩ := hy.shape
    have HY2 := Lib.hid hy
    have HT2 := Lib.hid (HS1.out.fresh fy)
    have HX2 := Lib.hid (HF1.out.trans fy)
    have cl2 := encL_le HV.out (by omega)
    clear hy fy
    go_wp2_with (at_builtin; refine wpList_append_sl _ rfl (.tmp 19) (.tmp 23) _ rfl W.heap.size 5 i0 _ 1 1 Try.underlying26 hi hz0 hz1 hz2 rfl (by omega) _ B1.length _ rfl HT2.out x2.heap.size D2 (encL vs).length d2 ((encL vs).map bv) rfl (by rw [List.length_map, Nat.mul_one]) HY2.out.rd (bv_one _) (by unfold maxLen; omega) (by omega) HX2.out.size ?_; intro v2 w2 hs hf ha; obtain ⟨B2, hB⟩ : ∃ B, B = B1 ++ (encL vs) := ⟨_, rfl⟩; have HB2 := Lib.hid hB; have hs' : Sl w2 W.heap.size 5 1 v2 B2.length (B2.map bv) := (by rw [hB, List.length_append, List.map_append]; exact hs); have bl2 : B2.length ≤ 10000 := (by rw [hB, List.length_append]; omega); obtain ⟨A2, c2, rfl, _⟩ := hs'.shape; have HS2 := Lib.hid hs'; have HF2 : Hid (Fresh W w2) := Lib.hid (HX2.out.trans' hf (fun k hk e => by have := (HT2.out.lt k e).1; omega)); have k3_w2 : w2.cell? ⟨w.heap.size, 3, none⟩ = some (.slice AL ls.length cl) := (BX.out.frm HF2.out (fun f => f)).cell 3; clear hB hs hs' hf ha)
    clear k2_w1
    go_wp2_with fail
    refine (refNumbers_any w2 AL cl ls (((HH.out.rl.fresh (Nat.le_refl _) HF2.out).more HF2.out.size)) HL.out (by omega)).mono ?_
    rintro e x3 ⟨y3, rfl, hy, fy⟩
    obtain ⟨D3, d3, rfl, _⟩ := hy.shape
    have HY3 := Lib.hid hy
    have HT3 := Lib.hid (HS2.out.fresh fy)
    have HX3 := Lib.hid (HF2.out.trans fy)
    have cl3 := encL_le HL.out (by omega)
    clear hy fy
    go_wp2_with (at_builtin; refine wpList_append_sl _ rfl (.tmp 25) (.tmp 29) _ rfl W.heap.size 5 i0 _ 1 1 Try.underlying26 hi hz0 hz1 hz2 rfl (by omega) _ B2.length _ rfl HT3.out x3.heap.size D3 (encL ls).length d3 ((encL ls).map bv) rfl (by rw [List.length_map, Nat.mul_one]) HY3.out.rd (bv_one _) (by unfold maxLen; omega) (by omega) HX3.out.size ?_; intro v3 w3 hs hf ha; obtain ⟨B3, hB⟩ : ∃ B, B = B2 ++ (encL ls) := ⟨_, rfl⟩; have HB3 := Lib.hid hB; have hs' : Sl w3 W.heap.size 5 1 v3 B3.length (B3.map bv) := (by rw [hB, List.length_append, List.map_append]; exact hs); have bl3 : B3.length ≤ 20000 := (by rw [hB, List.length_append]; omega); obtain ⟨A3, c3, rfl, _⟩ := hs'.shape; have HS3 := Lib.hid hs'; have HF3 : Hid (Fresh W w3) := Lib.hid (HX3.out.trans' hf (fun k hk e => by have := (HT3.out.lt k e).1; omega)); have k4_w3 : w3.cell? ⟨w.heap.size, 4, none⟩ = some (.slice AD ds.length cd) := (BX.out.frm HF3.out (fun f => f)).cell 4; clear hB hs hs' hf ha)
    clear k3_w2
    go_wp2_with fail
    refine (refText_any AD cd ds w3 (((HH.out.rd.fresh (Nat.le_refl _) HF3.out).more HF3.out.size)) (by omega)).mono ?_
    rintro e x4 ⟨y4, rfl, hy, fy⟩
    obtain ⟨D4, d4, rfl, _⟩ := hy.shape
    have HY4 := Lib.hid hy
    have HT4 := Lib.hid (HS3.out.fresh fy)
    have HX4 := Lib.hid (HF3.out.trans fy)
    have cl4 := text_le (ts := ds) (by omega)
    clear hy fy
    go_wp2_with (at_builtin; refine wpList_append_sl _ rfl (.tmp 31) (.tmp 34) _ rfl W.heap.size 5 i0 _ 1 1 Try.underlying26 hi hz0 hz1 hz2 rfl (by omega) _ B3.length _ rfl HT4.out x4.heap.size D4 (FieldM.text ds).length d4 ((FieldM.text ds).map bv) rfl (by rw [List.length_map, Nat.mul_one]) HY4.out.rd (bv_one _) (by unfold maxLen; omega) (by omega) HX4.out.size ?_; intro v4 w4 hs hf ha; obtain ⟨B4, hB⟩ : ∃ B, B = B3 ++ (FieldM.text ds) := ⟨_, rfl⟩; have HB4 := Lib.hid hB; have hs' : Sl w4 W.heap.size 5 1 v4 B4.length (B4.map bv) := (by rw [hB, List.length_append, List.map_append]; exact hs); have bl4 : B4.length ≤ 100000 := (by rw [hB, List.length_append]; omega); obtain ⟨A4, c4, rfl, _⟩ := hs'.shape; have HS4 := Lib.hid hs'; have HF4 : Hid (Fresh W w4) := Lib.hid (HX4.out.trans' hf (fun k hk e => by have := (HT4.out.lt k e).1; omega)); clear hB hs hs' hf ha)
    go_ret2
    refine ⟨_, rfl, ?_, HF.out.trans HF4.out⟩
    rw [HE.out, ← HB2.out, ← HB3.out, ← HB4.out]
    exact HS4.out.less HF.out.size
end Go.Proofs.Ytlceembcehokoaa

/- The document's reader and its Decode, walked; the law QueueDecodes walked. -/
import Derived.Test.YthofodjklogfgaaQueue27
import Derived.Test.YthofodjklogfgaaRefRead2
namespace Go.Proofs.Ythofodjklogfgaa
open Go.RowKit QueueM ReadM
attribute [local go_sem] run_store_float

/-- the document's reader, in the words of the plain reading -/
def RSt (w : World) (g : Nat) (bs : List UInt8) (s : List UInt8 × Bool) : Prop := ∃ at_, at_ ≤ bs.length ∧ RefAt w g g bs at_ s.2 ∧ (s.2 = false → s.1 = bs.drop at_)
theorem RSt.blk {w : World} {g : Nat} {bs : List UInt8} {s : List UInt8 × Bool} (h : RSt w g bs s) : ∃ cs, Blk w g 79 cs ∧ cs[2]? = some (.bool s.2) := by
  obtain ⟨_, _, ⟨_, _, h, _⟩, _⟩ := h; exact ⟨_, h, rfl⟩
theorem RSt.frm {w w' : World} {g : Nat} {bs : List UInt8} {s : List UInt8 × Bool} {S : Nat → Prop} (h : RSt w g bs s) (F : Frm S w w') (hS : ∀ k, k ≤ g → ¬ S k) : RSt w' g bs s := by
  obtain ⟨at_, h1, h2, h3⟩ := h
  exact ⟨at_, h1, h2.frm F (hS g (Nat.le_refl _)) (fun k hk => hS k (by omega)), h3⟩
theorem RSt.num {w : World} {g : Nat} {bs : List UInt8} {s t : List UInt8 × Bool} (h : RSt w g bs s) (hl : bs.length ≤ 20000) {most x : Nat} (hr : rdn most s = (x, t)) :
    Calls Try.prog 40 #[.pointer (some ⟨g, 0, none⟩), .int .u64 (most : Int)] w fun e w' => e = .returned (.int .u64 (x : Int)) ∧ RSt w' g bs t ∧ Frm (fun k => k = g) w w' := by
  obtain ⟨at_, h1, h2, h3⟩ := h
  obtain ⟨rest, bad⟩ := s
  refine (rNumber_any w g g bs at_ bad most h1 (by omega) h2).mono ?_
  rintro e w' ⟨he, at', k1, k2, k3, k4⟩
  dsimp only at h3
  cases bad with
  | true =>
    have e0 : rdn most (rest, true) = (0, (rest, true)) := rdn_bad _ _
    rw [e0] at hr
    injection hr with r1 r2
    subst r1 r2
    exact ⟨he, ⟨at', k1, k2, fun h => by cases h⟩, k4⟩
  | false =>
    have hd := h3 rfl
    subst hd
    have e1 : ifGood false (numRes most (bs.drop at_)) = numRes most (bs.drop at_) := rfl
    rw [e1] at he k2 k3
    unfold rdn at hr
    dsimp only at hr
    rw [if_neg (by simp)] at hr
    cases hn : numRes most (bs.drop at_) with
    | none =>
      rw [hn] at hr he k2 k3
      injection hr with r1 r2
      subst r1 r2
      exact ⟨he, ⟨at', k1, k2, fun h => by cases h⟩, k4⟩
    | some y =>
      rw [hn] at hr he k2 k3
      injection hr with r1 r2
      subst r1 r2
      exact ⟨he, ⟨at', k1, k2, fun _ => k3 _ rfl⟩, k4⟩
theorem RSt.whole {w : World} {g : Nat} {bs : List UInt8} {s : List UInt8 × Bool} (h : RSt w g bs s) :
    Calls Try.prog 42 #[.pointer (some ⟨g, 0, none⟩)] w fun e w' => e = .returned (.bool (wholeS s)) ∧ Fresh w w' := by
  obtain ⟨at_, h1, h2, h3⟩ := h
  refine (rWhole_any w g g bs at_ s.2 h2).mono ?_
  rintro e w' ⟨he, n, rfl⟩
  refine ⟨?_, (Frm.refl _ w).drewN n⟩
  rw [he]
  obtain ⟨rest, bad⟩ := s
  cases bad with
  | true => rfl
  | false =>
    have hd : rest = bs.drop at_ := h3 rfl
    unfold refWholeB wholeS
    dsimp only
    have e : rest = [] ↔ at_ = bs.length := by rw [hd, List.drop_eq_nil_iff]; omega
    by_cases h : at_ = bs.length
    · rw [decide_eq_true h, decide_eq_true (e.2 h)]
    · rw [decide_eq_false h, decide_eq_false (fun h2 => h (e.1 h2))]
/-- the loop's state -/
structure RInv (w : World) (g c B : Nat) (u : Value) (bs : List UInt8) (l : List Wt) (s : List UInt8 × Bool) (wr : World) : Prop where
  rdr : RSt wr g bs s
  r : IsR wr B c u l
  low : w.heap.size ≤ g ∧ g < B
  good : QueueM.Good l
  words : Words l
  frm : Fresh w wr
theorem RInv.fresh {w wr w' : World} {g c B : Nat} {u : Value} {bs : List UInt8} {l : List Wt} {s : List UInt8 × Bool} (h : RInv w g c B u bs l s wr) (F : Fresh wr w') : RInv w g c B u bs l s w' :=
  ⟨h.rdr.frm F (fun _ _ f => f), h.r.fresh F, h.low, h.good, h.words, h.frm.trans F⟩
theorem RInv.num {w wr : World} {g c B : Nat} {u : Value} {bs : List UInt8} {l : List Wt} {s t : List UInt8 × Bool} (h : RInv w g c B u bs l s wr) (hl : bs.length ≤ 20000) {most x : Nat} (hr : rdn most s = (x, t)) :
    Calls Try.prog 40 #[.pointer (some ⟨g, 0, none⟩), .int .u64 (most : Int)] wr fun e w' => e = .returned (.int .u64 (x : Int)) ∧ RInv w g c B u bs l t w' ∧ Frm (fun k => k = g) wr w' := by
  refine (h.rdr.num hl hr).mono ?_
  rintro e w' ⟨h1, h2, F⟩
  obtain ⟨cs, hb, _⟩ := h.rdr.blk
  refine ⟨h1, ⟨h2, ⟨h.r.blk.frm F (h.r.blk.apart hb (by decide)), h.r.ge, h.r.sl.frm F (fun k hk e => ?_)⟩, h.low, h.good, h.words, h.frm.trans' F (fun k hk e => by have := h.low; omega)⟩, F⟩
  subst e
  exact h.r.sl.apart hb (by decide) hk
theorem RInv.add {w wr w' : World} {g c B : Nat} {u : Value} {bs : List UInt8} {l : List Wt} {s : List UInt8 × Bool} (h : RInv w g c B u bs l s wr) {x : Wt} (hx : x.score < 18446744073709551616) (st : StepR wr B c (add x l).2 w') : ∃ u', RInv w g c B u' bs (add x l).2 s w' := by
  obtain ⟨u', hr, hf⟩ := st
  have hlow := h.low
  have hge := h.r.ge
  exact ⟨u', h.rdr.frm hf (fun k hk e => by omega), hr, h.low, h.good.add x, h.words.add hx, h.frm.trans' hf (fun k hk e => by omega)⟩
theorem RInv.poke {w wr : World} {g c B : Nat} {u : Value} {bs : List UInt8} {l : List Wt} {s : List UInt8 × Bool} (h : RInv w g c B u bs l s wr) {k : Nat} {cs : Array Value} (hk : Blk wr k 28 cs) (hkg : g < k) (hown : ∀ j, u.ownBlock = some j → j < k) (i : Nat) (y : Value) : RInv w g c B u bs l s (wr.setCell ⟨k, i, none⟩ y) := by
  have F : Frm (fun j => j = k) wr (wr.setCell ⟨k, i, none⟩ y) := (Frm.refl (fun j => j = k) wr).setCell (p := ⟨k, i, none⟩) (fun _ => rfl) y
  have hlow := h.low
  exact ⟨h.rdr.frm F (fun j hj e => by omega), ⟨h.r.blk.frm F (h.r.blk.apart hk (by decide)), h.r.ge, h.r.sl.frm F (fun j hj e => by have := hown j hj; omega)⟩, h.low, h.good, h.words, h.frm.trans' F (fun j hj e => by omega)⟩
def RefDecPost (w : World) (res : Option (List Wt)) (e : Ending) (w' : World) : Prop :=
  match res with
  | none => e = .returned (.tuple #[.pointer none, .int .i64 6]) ∧ Fresh w w'
  | some l => ∃ c u, e = .returned (.tuple #[.pointer (some ⟨c, 0, none⟩), .int .i64 0]) ∧ IsR w' w.heap.size c u l ∧ Fresh w w'
def finR (b : List UInt8) (o : Option (List Wt × (List UInt8 × Bool))) : Option (List Wt) := match o with
  | some x => if wholeS x.2 = true ∧ enc x.1 = b then some x.1 else none
  | none => none
theorem decR_fin (b : List UInt8) : decR b = finR b (rdec5 (rdn 200 (b, false)).1 [] (rdn 200 (b, false)).2) := rfl
theorem finR_no {b : List UInt8} {k : Nat} {l : List Wt} {s : List UInt8 × Bool} {x : Wt} {t : List UInt8 × Bool} (h5 : one5 s = (x, t)) (h : t.2 = true ∨ (add x l).1 ≠ 0) : finR b (rdec5 (k + 1) l s) = none := by
  rw [rdec5, h5, if_pos h]
  rfl
theorem finR_on {b : List UInt8} {k : Nat} {l : List Wt} {s : List UInt8 × Bool} {x : Wt} {t : List UInt8 × Bool} (h5 : one5 s = (x, t)) (h1 : t.2 = false) (h2 : (add x l).1 = 0) : finR b (rdec5 (k + 1) l s) = finR b (rdec5 k (add x l).2 t) := by
  rw [rdec5, h5, if_neg (by rw [h1, h2]; simp)]

theorem rout_no {w w' : World} {bs : List UInt8} (h : decR bs = none) (F : Fresh w w') : RefDecPost w (decR bs) (.returned (.tuple #[.pointer none, .int .i64 6])) w' := by
  rw [h]
  exact ⟨rfl, F⟩
theorem str_inj {a b : List UInt8} (h : a ≠ b) : ((str a).toList == (str b).toList) = false := by
  rw [str_toList, str_toList, beq_eq_false_iff_ne]
  exact h
set_option maxRecDepth 100000 in
set_option maxHeartbeats 8000000 in
theorem refDecode_any (w : World) (A : Option Addr) (cap : Nat) (bs : List UInt8) (hA : Rd w w.heap.size A (bs.map bv)) (hl : bs.length ≤ 20000) (hc : bs.length ≤ cap) (hm : cap ≤ maxLen) :
    Calls Try.prog 21 #[.slice A bs.length cap] w fun e w' => RefDecPost w (decR bs) e w' := by
  have HA := Lib.hid hA
  have HFIN := Lib.hid (decR_fin bs)
  have hn200 := rdn_lt 200 (bs, false)
  obtain ⟨w2, hw2⟩ : ∃ w2, w2 = w.alloc (.cells #[.slice A bs.length cap, .int .i64 0, .bool false] 79) := ⟨_, rfl⟩
  have f2 : Fresh w w2 := by rw [hw2]; exact (Frm.refl _ w).alloc _
  have hr2 : RSt w2 w.heap.size bs (bs, false) := ⟨0, by omega, ⟨A, cap, by rw [hw2]; exact Blk.new w _ _, hA.fresh (Nat.le_refl _) f2, hc, hm, Nat.le_refl _⟩, fun _ => by simp⟩
  have hsz2 : w2.heap.size = w.heap.size + 1 := by rw [hw2]; simp
  obtain ⟨n, s0, h0⟩ : ∃ n s0, rdn 200 (bs, false) = (n, s0) := ⟨_, _, rfl⟩
  rw [h0] at HFIN hn200
  dsimp only at HFIN hn200
  have H0 : Hid (Calls Try.prog 40 #[.pointer (some ⟨w.heap.size, 0, none⟩), .int .u64 200] w2 fun e w' => e = .returned (.int .u64 (n : Int)) ∧ RSt w' w.heap.size bs s0 ∧ Frm (fun k => k = w.heap.size) w2 w') := Lib.hid (hr2.num hl (most := 200) h0)
  have HF2 := Lib.hid f2
  clear hA hr2 f2 h0
  go_enter Try.func21, Try.ntmps21
  go_wp2_with fail
  rw [← hw2]
  clear hw2
  refine H0.out.mono ?_
  rintro e w3 ⟨rfl, r3, f3⟩
  obtain ⟨w4, hw4⟩ : ∃ w4, w4 = w3.alloc (.cells #[.slice none 0 0] 44) := ⟨_, rfl⟩
  have f4 : Fresh w3 w4 := by rw [hw4]; exact (Frm.refl _ w3).alloc _
  have hsz3 := f3.size
  have HV4 : Hid (RInv w w.heap.size w3.heap.size w3.heap.size (.slice none 0 0) bs [] s0 w4) := Lib.hid
    ⟨r3.frm f4 (fun _ _ f => f), ⟨by rw [hw4]; exact Blk.new w3 _ _, Nat.le_refl _, Sl.nil _ _ _ _⟩, ⟨Nat.le_refl _, by omega⟩, QueueM.Good.nil, (fun x hx => by cases hx), (HF2.out.trans' f3 (fun k hk e => by omega)).trans f4⟩
  clear r3 f3 f4
  go_wp2_with fail
  rw [← hw4]
  clear hw4
  obtain ⟨g, hg⟩ : ∃ g, w.heap.size = g := ⟨_, rfl⟩
  have HGW := Lib.hid hg
  rw [hg] at HV4 ⊢
  generalize w3.heap.size = c at HV4
  have HB : ∃ B, Hid (RInv w g c B (.slice none 0 0) bs [] s0 w4) := ⟨c, HV4⟩
  clear HV4 hg hsz2 hsz3
  obtain ⟨B, HV4⟩ := HB
  go_loopw [7] (fun v7 wr => ∃ (i : Nat) (u : Value) (l : List Wt) (s : List UInt8 × Bool), i ≤ n ∧ v7 = .int .u64 (i : Int) ∧ RInv w g c B u bs l s wr ∧ decR bs = finR bs (rdec5 (n - i) l s)) (fun v7 _ => n - (intOf v7).toNat)
  case atStart => exact ⟨0, _, _, _, by omega, rfl, HV4.out, by rw [Nat.sub_zero]; exact HFIN.out⟩
  case round =>
    clear HV4 H0 HFIN
    obtain ⟨i, u, l, s, hin, rfl, hv, hfin⟩ := hrel
    have HV := Lib.hid hv
    have HFIN := Lib.hid hfin
    have hi0 : (0 : Int) ≤ (i : Int) := by omega
    clear hfin
    by_cases hlt : i < n
    · obtain ⟨k, hk⟩ : ∃ k, n - i = k + 1 := ⟨n - i - 1, by omega⟩
      have hki : n - (i + 1) = k := by omega
      rw [hk] at HFIN
      obtain ⟨x1, s1, h1⟩ : ∃ x1 s1, rdn 28629151 s = (x1, s1) := ⟨_, _, rfl⟩
      obtain ⟨x2, s2, h2⟩ : ∃ x2 s2, rdn 7 s1 = (x2, s2) := ⟨_, _, rfl⟩
      obtain ⟨x3, s3, h3⟩ : ∃ x3 s3, rdn 600 s2 = (x3, s3) := ⟨_, _, rfl⟩
      obtain ⟨x4, s4, h4⟩ : ∃ x4 s4, rdn 1099511627776 s3 = (x4, s4) := ⟨_, _, rfl⟩
      obtain ⟨x5, s5, h5⟩ : ∃ x5 s5, rdn 18446744073709551615 s4 = (x5, s5) := ⟨_, _, rfl⟩
      have H5 : Hid (one5 s = (⟨(x1 : Int), (x2 : Int), (x3 : Int), (x4 : Int), FareM.of x5⟩, s5)) := Lib.hid (by simp [one5, h1, h2, h3, h4, h5])
      have b1 : x1 ≤ 28629151 := by have := rdn_lt 28629151 s; rw [h1] at this; exact this
      have b2 : x2 ≤ 7 := by have := rdn_lt 7 s1; rw [h2] at this; exact this
      have b3 : x3 ≤ 600 := by have := rdn_lt 600 s2; rw [h3] at this; exact this
      have b4 : x4 ≤ 1099511627776 := by have := rdn_lt 1099511627776 s3; rw [h4] at this; exact this
      have hx5 : x5 < 18446744073709551616 := by have := rdn_lt 18446744073709551615 s4; rw [h5] at this; dsimp only at this; omega
      have HSC := Lib.hid (FareM.of_lt hx5)
      have HOF := Lib.hid (fun w => refOf_any x5 hx5 w)
      have N1 : Hid (Calls Try.prog 40 #[.pointer (some ⟨g, 0, none⟩), .int .u64 28629151] wr fun e w' => e = .returned (.int .u64 (x1 : Int)) ∧ RInv w g c B u bs l s1 w' ∧ Frm (fun k => k = g) wr w') := Lib.hid (HV.out.num hl (most := 28629151) h1)
      have N2 : Hid (∀ wq, RInv w g c B u bs l s1 wq → Calls Try.prog 40 #[.pointer (some ⟨g, 0, none⟩), .int .u64 7] wq fun e w' => e = .returned (.int .u64 (x2 : Int)) ∧ RInv w g c B u bs l s2 w' ∧ Frm (fun k => k = g) wq w') := Lib.hid fun wq h => h.num hl (most := 7) h2
      have N3 : Hid (∀ wq, RInv w g c B u bs l s2 wq → Calls Try.prog 40 #[.pointer (some ⟨g, 0, none⟩), .int .u64 600] wq fun e w' => e = .returned (.int .u64 (x3 : Int)) ∧ RInv w g c B u bs l s3 w' ∧ Frm (fun k => k = g) wq w') := Lib.hid fun wq h => h.num hl (most := 600) h3
      have N4 : Hid (∀ wq, RInv w g c B u bs l s3 wq → Calls Try.prog 40 #[.pointer (some ⟨g, 0, none⟩), .int .u64 1099511627776] wq fun e w' => e = .returned (.int .u64 (x4 : Int)) ∧ RInv w g c B u bs l s4 w' ∧ Frm (fun k => k = g) wq w') := Lib.hid fun wq h => h.num hl (most := 1099511627776) h4
      have N5 : Hid (∀ wq, RInv w g c B u bs l s4 wq → Calls Try.prog 40 #[.pointer (some ⟨g, 0, none⟩), .int .u64 18446744073709551615] wq fun e w' => e = .returned (.int .u64 (x5 : Int)) ∧ RInv w g c B u bs l s5 w' ∧ Frm (fun k => k = g) wq w') := Lib.hid fun wq h => h.num hl (most := 18446744073709551615) h5
      have hlti : (i : Int) < (n : Int) := by omega
      have hw1 : IntKind.i64.wrap (x1 : Int) = (x1 : Int) := IntWalk.i64_in _ (by omega)
      have hw2 : IntKind.i64.wrap (x2 : Int) = (x2 : Int) := IntWalk.i64_in _ (by omega)
      have hw3 : IntKind.i64.wrap (x3 : Int) = (x3 : Int) := IntWalk.i64_in _ (by omega)
      have hw4 : IntKind.i64.wrap (x4 : Int) = (x4 : Int) := IntWalk.i64_in _ (by omega)
      clear h1 h2 h3 h4 h5 hx5 hv hk b1 b2 b3 b4
      go_wp2_with fail
      refine N1.out.mono ?_
      rintro e w5 ⟨rfl, v5, _⟩
      have HV5 := Lib.hid v5
      clear v5
      go_wp2_with fail
      refine (N2.out w5 HV5.out).mono ?_
      rintro e w6 ⟨rfl, v6, _⟩
      have HV6 := Lib.hid v6
      clear v6
      go_wp2_with fail
      refine (N3.out w6 HV6.out).mono ?_
      rintro e w7 ⟨rfl, v7, _⟩
      have HV7 := Lib.hid v7
      clear v7
      go_wp2_with fail
      refine (N4.out w7 HV7.out).mono ?_
      rintro e w8 ⟨rfl, v8, _⟩
      obtain ⟨w9, hw9⟩ : ∃ w9, w9 = w8.alloc (.cells #[.int .i64 (x1 : Int), .int .i64 (x2 : Int), .int .i64 (x3 : Int), .int .i64 (x4 : Int), .float .f64 0] 28) := ⟨_, rfl⟩
      have HV9 : Hid (RInv w g c B u bs l s4 w9) := Lib.hid (v8.fresh (by rw [hw9]; exact (Frm.refl _ w8).alloc _))
      have HB9 : Hid (Blk w9 w8.heap.size 28 (wcells ⟨(x1 : Int), (x2 : Int), (x3 : Int), (x4 : Int), 0⟩).toArray) := Lib.hid (by rw [hw9]; exact Blk.new w8 _ _)
      have hgk : g < w8.heap.size := by obtain ⟨cs, hb, _⟩ := v8.rdr.blk; exact hb.lt
      have HOWN : Hid (∀ j, u.ownBlock = some j → j < w8.heap.size) := Lib.hid fun j hj => (v8.r.sl.lt j hj).2
      clear v8
      go_wp2_with fail
      rw [← hw9]
      clear hw9
      generalize w8.heap.size = bx at HB9 hgk HOWN
      refine (N5.out w9 HV9.out).mono ?_
      rintro e w10 ⟨rfl, v10, f10⟩
      obtain ⟨cs9, hb9, _⟩ := HV9.out.rdr.blk
      have k10 : Blk w10 bx 28 (wcells ⟨(x1 : Int), (x2 : Int), (x3 : Int), (x4 : Int), 0⟩).toArray := HB9.out.frm f10 (HB9.out.apart hb9 (by decide))
      have HV10 := Lib.hid v10
      have HB10 := Lib.hid k10
      have e4 : w10.cell? ⟨bx, 4, none⟩ = some (.float .f64 0) := k10.cell 4
      have z4 := k10.frozen 4
      clear v10 f10 hb9 k10
      go_wp2_with fail
      refine (HOF.out w10).mono ?_
      rintro e wz ⟨rfl, hwz⟩
      rw [hwz]
      clear hwz wz
      have HV11 := Lib.hid (HV10.out.poke HB10.out hgk HOWN.out 4 (.float .f64 (FareM.of x5)))
      have HB11 : Hid (Blk (w10.setCell ⟨bx, 4, none⟩ (.float .f64 (FareM.of x5))) bx 28 (wcells ⟨(x1 : Int), (x2 : Int), (x3 : Int), (x4 : Int), FareM.of x5⟩).toArray) := Lib.hid (HB10.out.set 4 (.float .f64 (FareM.of x5)))
      generalize FareM.of x5 = x5f at H5 HSC HV11 HB11 ⊢
      obtain ⟨d0, d1, d2, d3, d4⟩ := five_blk HB11.out
      dsimp only at d0 d1 d2 d3 d4
      obtain ⟨W, hW⟩ : ∃ W, W = w10.setCell ⟨bx, 4, none⟩ (.float .f64 x5f) := ⟨_, rfl⟩
      have HADD : Hid (Calls Try.prog 30 #[.pointer (some ⟨c, 0, none⟩), .agg #[.int .i64 (x1 : Int), .int .i64 (x2 : Int), .int .i64 (x3 : Int), .int .i64 (x4 : Int), .float .f64 x5f]] W fun e w' => AddPostR W B c ⟨(x1 : Int), (x2 : Int), (x3 : Int), (x4 : Int), x5f⟩ l e w') := Lib.hid (by rw [hW]; exact refAdd_any _ B c u l ⟨(x1 : Int), (x2 : Int), (x3 : Int), (x4 : Int), x5f⟩ HV11.out.r HV11.out.good)
      rw [← hW] at HV11
      clear HV10 HB10 HV9 HB9 HV7 HV6 HV5 N1 N2 N3 N4 N5 HOF HV HB11
      go_wp2_with fail
      rw [← hW]
      clear hW d0 d1 d2 d3 d4 e4 z4
      refine HADD.out.mono ?_
      rintro e w12 ⟨rfl, st⟩
      obtain ⟨u', hv12⟩ := HV11.out.add (x := ⟨(x1 : Int), (x2 : Int), (x3 : Int), (x4 : Int), x5f⟩) HSC.out st
      have HV12 := Lib.hid hv12
      obtain ⟨cs, hb, hcs⟩ := hv12.rdr.blk
      have ha : w12.cell? ⟨g, 2, none⟩ = some (.bool s5.2) := by rw [hb.cell, hcs]
      obtain ⟨cc, hcc⟩ : ∃ cc, cc = (add ⟨(x1 : Int), (x2 : Int), (x3 : Int), (x4 : Int), x5f⟩ l).1 := ⟨_, rfl⟩
      have HCC := Lib.hid hcc
      rw [← hcc]
      have HFF := Lib.hid hv12.frm
      clear st hv12 hb hcs hcc HADD HV11
      rcases Bool.eq_false_or_eq_true s5.2 with hbad | hbad
      · have HNO : Hid (decR bs = none) := Lib.hid (by rw [HFIN.out]; exact finR_no H5.out (.inl hbad))
        rw [hbad] at ha
        clear hbad
        go_wp2_with fail
        exact bodyPost_ret (v := .tuple #[.pointer none, .int .i64 6]) (by simp [results, Try.results21, go_sem]) rfl (rout_no HNO.out HFF.out)
      · rw [hbad] at ha
        have HBAD := Lib.hid hbad
        clear hbad
        by_cases hcz : cc = 0
        · subst hcz
          have HNX : Hid (decR bs = finR bs (rdec5 (n - (i + 1)) (add ⟨(x1 : Int), (x2 : Int), (x3 : Int), (x4 : Int), x5f⟩ l).2 s5)) := Lib.hid (by rw [hki, ← finR_on H5.out HBAD.out HCC.out.symm, HFIN.out])
          go_wp2_with fail
          go_roundw
          case rel => exact ⟨i + 1, u', _, s5, by omega, by go_num, HV12.out, HNX.out⟩
          case measure => simp [intOf]; omega
        · have HNO : Hid (decR bs = none) := Lib.hid (by rw [HFIN.out]; exact finR_no H5.out (.inr (by rw [← HCC.out]; exact hcz)))
          have hcb : (cc == 0) = false := by rw [beq_eq_false_iff_ne]; exact hcz
          have hcb2 : (cc != 0) = true := by rw [bne_iff_ne]; exact hcz
          go_wp2_with fail
          exact bodyPost_ret (v := .tuple #[.pointer none, .int .i64 6]) (by simp [results, Try.results21, go_sem]) rfl (rout_no HNO.out HFF.out)
    · obtain rfl : i = n := by omega
      rw [Nat.sub_self] at HFIN
      have HE : Hid (decR bs = if wholeS s = true ∧ enc l = bs then some l else none) := Lib.hid (by rw [HFIN.out]; rfl)
      have HWH := Lib.hid hv.rdr.whole
      have HENC : Hid (∀ wq, Fresh wr wq → Calls Try.prog 34 #[.pointer (some ⟨c, 0, none⟩)] wq fun e w' => EncPost wq l e w') := Lib.hid fun wq F => refEncode_any wq B c u l (hv.r.fresh F) hv.good hv.words
      have HFR := Lib.hid hv.frm
      generalize wholeS s = wb at HE HWH
      clear hv
      cases wb with
      | false =>
        have HNO : Hid (decR bs = none) := Lib.hid (by rw [HE.out]; simp)
        go_wp2_with fail
        refine HWH.out.mono ?_
        rintro e w5 ⟨rfl, f5⟩
        have HF5 := Lib.hid (HFR.out.trans f5)
        clear f5
        go_wp2_with fail
        go_quiet (fail)
        go_wp2_with fail
        exact bodyPost_ret (v := .tuple #[.pointer none, .int .i64 6]) (by simp [results, Try.results21, go_sem]) rfl (rout_no HNO.out (HF5.out.drewN _))
      | true =>
        go_wp2_with fail
        refine HWH.out.mono ?_
        rintro e w5 ⟨rfl, f5⟩
        have HF5 := Lib.hid (HFR.out.trans f5)
        have HEC : Hid (Calls Try.prog 34 #[.pointer (some ⟨c, 0, none⟩)] w5.drew fun e w' => EncPost w5.drew l e w') := Lib.hid (HENC.out w5.drew f5.drew)
        have HRB : Hid (∀ w', Fresh w w' → (convert 50 9 (.slice A bs.length cap)).run Try.prog w' = .ok (.string (str bs)) w') := Lib.hid fun w' F => conv_u cap ((HA.out.fresh (Nat.le_refl _) F).more F.size) rfl
        have q5 := HRB.out w5.drew HF5.out.drew
        have HOUT : Hid (∀ w', Fresh wr w' → RInv w g c B u bs l s w') := Lib.hid fun w' F => HV.out.fresh F
        have HF50 := Lib.hid f5
        unfold EncPost at HEC
        clear f5 HENC HWH
        by_cases he : enc l = bs
        · have HYES : Hid (decR bs = some l) := Lib.hid (by rw [HE.out]; simp [he])
          rw [he] at HEC
          clear he
          go_wp2_with fail
          go_region_with
            ((first
              | (go_at_call 34; refine (HEC.out).mono ?_; rintro e w6 ⟨v6, rfl, hs6, f6⟩; obtain ⟨A6, c6, rfl, _⟩ := hs6.shape; have q51 := HRB.out w6 (HF5.out.drew.trans f6); have q6 : (convert 50 9 (.slice A6 bs.length c6)).run Try.prog w6 = .ok (.string (str bs)) w6 := conv_u c6 hs6.rd rfl; have HF6 := Lib.hid (HF50.out.drew.trans f6); clear hs6 f6)))
          all_goals
            go_wp2_with fail
            refine bodyPost_ret (v := .tuple #[.pointer (some ⟨c, 0, none⟩), .int .i64 0]) (by simp [results, Try.results21, go_sem, Act.put]) rfl ?_
            rw [HYES.out]
            have hv6 := HOUT.out _ HF6.out
            exact ⟨c, u, rfl, hv6.r.less (by have := hv6.low; omega), hv6.frm⟩
        · have HNO : Hid (decR bs = none) := Lib.hid (by rw [HE.out, if_neg (fun h => he h.2)])
          have hne : ((str (enc l)).toList == (str bs).toList) = false := str_inj he
          generalize enc l = el at HEC hne
          clear he
          go_wp2_with fail
          go_region_with
            ((first
              | (go_at_call 34; refine (HEC.out).mono ?_; rintro e w6 ⟨v6, rfl, hs6, f6⟩; obtain ⟨A6, c6, rfl, _⟩ := hs6.shape; have q51 := HRB.out w6 (HF5.out.drew.trans f6); have q6 : (convert 50 9 (.slice A6 el.length c6)).run Try.prog w6 = .ok (.string (str el)) w6 := conv_u c6 hs6.rd rfl; have HF6 := Lib.hid (HF50.out.drew.trans f6); clear hs6 f6)))
          all_goals
            go_wp2_with fail
            exact bodyPost_ret (v := .tuple #[.pointer none, .int .i64 6]) (by simp [results, Try.results21, go_sem, Act.put]) rfl (rout_no HNO.out (HOUT.out _ HF6.out).frm)

set_option maxRecDepth 100000 in
set_option maxHeartbeats 4000000 in
theorem decodes_law (w : World) (A : Option Addr) (cap : Nat) (bs : List UInt8) (hA : Rd w w.heap.size A (bs.map bv)) (hc : bs.length ≤ cap) (hm : cap ≤ maxLen) :
    Calls Try.prog 7 #[.slice A bs.length cap] w fun e w' => e = .returned (.bool true) ∧ Below w.heap.size w w' := by
  have HA := Lib.hid hA
  clear hA
  go_enter Try.func7, Try.ntmps7
  go_wp2_with fail
  refine (awake_any w).mono ?_
  rintro e w1 ⟨rfl, f1⟩
  have HF1 := Lib.hid f1
  clear f1
  by_cases hbig : bs.length ≤ 20000
  · have hbi : ¬ (20000 : Int) < (bs.length : Int) := by omega
    have HD1 := Lib.hid (decode_any w1 A cap bs ((HA.out.fresh (Nat.le_refl _) HF1.out).more HF1.out.size) hbig hc hm)
    have HD2 : Hid (∀ w2, Fresh w1 w2 → Calls Try.prog 21 #[.slice A bs.length cap] w2 fun e w' => RefDecPost w2 (decP bs) e w') := Lib.hid fun w2 F => by
      have := refDecode_any w2 A cap bs ((HA.out.fresh (Nat.le_refl _) (HF1.out.trans F)).more (HF1.out.trans F).size) hbig hc hm
      rw [← decP_decR] at this
      exact this
    have HINV := Lib.hid (fun l (h : decP bs = some l) => decP_inv h)
    cases hd : decP bs with
    | none =>
      rw [hd] at HD1 HD2
      clear hd HINV
      go_wp2_with fail
      refine HD1.out.mono ?_
      rintro e w2 ⟨rfl, f2⟩
      have HF2 := Lib.hid f2
      clear f2
      go_wp2_with fail
      refine (HD2.out _ HF2.out).mono ?_
      rintro e w3 ⟨rfl, f3⟩
      have HF3 := Lib.hid ((HF1.out.trans HF2.out).trans f3)
      clear f3
      go_wp2_with fail
      go_ret
      exact ⟨by simp, Fresh.below HF3.out⟩
    | some l =>
      have HG := Lib.hid (HINV.out l hd).1
      have HW : Hid (Words l) := Lib.hid (HINV.out l hd).2.1
      rw [hd] at HD1 HD2
      clear hd HINV
      go_wp2_with fail
      refine HD1.out.mono ?_
      rintro e w2 ⟨b, v, rfl, q2, f2⟩
      have HF2 := Lib.hid f2
      have HQ := Lib.hid q2
      clear f2 q2
      go_wp2_with fail
      refine (HD2.out _ HF2.out).mono ?_
      rintro e w3 ⟨c, u, rfl, r3, f3⟩
      have HB : Hid (Both w b c v u l l w3) := Lib.hid ⟨(HQ.out.fresh f3).less HF1.out.size, r3.less (Nat.le_trans HF1.out.size HF2.out.size), (HF1.out.trans HF2.out).trans f3⟩
      clear f3 r3
      go_wp2_with fail
      refine (alike_any w w3 b c v u l HB.out HG.out HW.out).mono ?_
      rintro e w4 ⟨rfl, f4⟩
      have HF4 := Lib.hid (HB.out.frm.trans f4)
      clear f4
      go_wp2_with fail
      go_ret
      exact ⟨by simp, Fresh.below HF4.out⟩
  · have hbi : (20000 : Int) < (bs.length : Int) := by omega
    go_wp2_with fail
    go_ret
    exact ⟨by simp, Fresh.below HF1.out⟩
theorem decodes_walk (w : World) (A : Option Addr) (cap : Nat) (bs : List UInt8) (hb : IsBytes w A cap bs) (_ : cap ≤ 140737488351232) :
    Calls Try.prog 7 #[.slice A bs.length cap] w fun e w' => e = .returned (.bool true) ∧ Below w.heap.size w w' :=
  decodes_law w A cap bs hb.rd hb.le hb.most
end Go.Proofs.Ythofodjklogfgaa

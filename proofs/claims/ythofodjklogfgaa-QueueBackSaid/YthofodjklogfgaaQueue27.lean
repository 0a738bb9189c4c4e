/- The program's Decode, walked. -/
import Derived.Test.YthofodjklogfgaaQueue26
import Derived.Deep.RegionHeld3
namespace Go.Proofs.Ythofodjklogfgaa
open Go.RowKit QueueM ReadM
attribute [local go_sem] run_store_float

theorem op_here {o : Oper} {l : List Oper} : (List.toArray (o :: l))[0]? = some o := rfl
theorem op_later {a o : Oper} {l : List Oper} {n : Nat} (h : (List.toArray l)[n]? = some o) : (List.toArray (a :: l))[n + 1]? = some o := by
  simpa using h
theorem last_get {l : List Wt} {x : Wt} {n : Nat} (h : l.length = n + 1) : behind l x = decide (0 < ord (l[n]'(by omega)) x) := by
  unfold behind
  have e : l.getLast? = some (l[n]'(by omega)) := by rw [List.getLast?_eq_getElem?, show l.length - 1 = n by omega, List.getElem?_eq_getElem (by omega)]
  rw [e]
theorem out_no {w w' : World} {bs : List UInt8} (h : decP bs = none) (F : Fresh w w') : DecPost w (decP bs) (.returned (.tuple #[.pointer none, .int .i64 6])) w' := by
  rw [h]
  exact ⟨rfl, F⟩
set_option maxRecDepth 100000 in
set_option maxHeartbeats 8000000 in
theorem decode_any (w : World) (A : Option Addr) (cap : Nat) (bs : List UInt8) (hA : Rd w w.heap.size A (bs.map bv)) (hl : bs.length ≤ 20000) (hc : bs.length ≤ cap) (hm : cap ≤ maxLen) :
    Calls Try.prog 20 #[.slice A bs.length cap] w fun e w' => DecPost w (decP bs) e w' := by
  have HA := Lib.hid hA
  have hmf : ∀ (fn : Fn) (first cap : Array Value) (w : World), (Instr.makeFunc fn first cap).run Try.prog w = .ok (.func fn first cap) w := fun _ _ _ _ => rfl
  have HFIN := Lib.hid (decP_fin bs)
  have hn200 := rdn_lt 200 (bs, false)
  clear hA
  go_enter Try.func20, Try.ntmps20
  go_wp2_with fail
  refine (rdr_new w w.heap.size A cap bs HA.out (Nat.le_refl _) (by omega) hc hm).mono ?_
  rintro e w1 ⟨g, rfl, r1, f1, hg⟩
  obtain ⟨w2, hw2⟩ : ∃ w2, w2 = w1.alloc (.cells #[.pointer (some ⟨g, 0, none⟩)] 73) := ⟨_, rfl⟩
  have f2 : Fresh w1 w2 := by rw [hw2]; exact (Frm.refl _ w1).alloc _
  have hb2 : Blk w2 w1.heap.size 73 #[.pointer (some ⟨g, 0, none⟩)] := by rw [hw2]; exact Blk.new w1 _ _
  have hglt : g < w1.heap.size := by obtain ⟨cs, hb⟩ := r1.blk; exact hb.lt
  have HINV : Hid (∀ w3, IsQ w3 w2.heap.size w2.heap.size (.slice none 0 0) [] → Fresh w2 w3 → DecInv w w1.heap.size g w2.heap.size w2.heap.size (.slice none 0 0) [] (bs, false) w3) := Lib.hid fun w3 q3 f3 =>
    ⟨(r1.frm (f2.trans f3) (fun f => f) (fun _ _ f => f)), ⟨_, by decide, by decide, by decide, by decide, hb2.frm f3 (fun f => f)⟩, q3, ⟨hg, by have := f2.size; omega⟩, QueueM.Good.nil, (fun x hx => by cases hx), (f1.trans f2).trans f3⟩
  clear r1 f1 f2 hb2 hglt
  go_wp2_with fail
  rw [← hw2]
  clear hw2
  refine (new_any w2).mono ?_
  rintro e w3 ⟨rfl, q3, f3⟩
  have HV := Lib.hid (HINV.out w3 q3 f3)
  clear q3 f3 HINV
  generalize w1.heap.size = p at HV
  generalize w2.heap.size = b at HV
  have HB : ∃ B, Hid (DecInv w p g b B (.slice none 0 0) [] (bs, false) w3) := ⟨b, HV⟩
  clear HV
  obtain ⟨B, HV⟩ := HB
  obtain ⟨n, s0, h0⟩ : ∃ n s0, rdn 200 (bs, false) = (n, s0) := ⟨_, _, rfl⟩
  rw [h0] at HFIN hn200
  dsimp only at HFIN hn200
  have H0 : Hid (Calls Try.prog 36 #[.int .i64 200, .pointer (some ⟨p, 0, none⟩)] w3 fun e w' => e = .returned (.int .i64 (n : Int)) ∧ DecInv w p g b B (.slice none 0 0) [] s0 w' ∧ Frm (fun k => k = g) w3 w') := Lib.hid (HV.out.num (most := 200) h0 (by omega))
  clear h0
  go_wp2_with fail
  refine H0.out.mono ?_
  rintro e w4 ⟨rfl, v4, _⟩
  have HV4 := Lib.hid v4
  clear v4
  go_wp2_with fail
  go_loopw [15] (fun v15 wr => ∃ (i : Nat) (v : Value) (l : List Wt) (s : List UInt8 × Bool), i ≤ n ∧ v15 = .int .i64 (i : Int) ∧ DecInv w p g b B v l s wr ∧ decP bs = finP (pdec (n - i) l s)) (fun v15 _ => n - (intOf v15).toNat)
  case atStart => exact ⟨0, _, _, _, by omega, rfl, HV4.out, by rw [Nat.sub_zero]; exact HFIN.out⟩
  case round =>
    clear HV4 HV H0 HFIN
    obtain ⟨i, v, l, s, hin, rfl, hv, hfin⟩ := hrel
    have HV := Lib.hid hv
    have HFIN := Lib.hid hfin
    have hi0 : (0 : Int) ≤ (i : Int) := by omega
    have hfew := hv.good.few
    clear hfin
    by_cases hlt : i < n
    · obtain ⟨k, hk⟩ : ∃ k, n - i = k + 1 := ⟨n - i - 1, by omega⟩
      have hki : n - (i + 1) = k := by omega
      rw [hk] at HFIN
      obtain ⟨x1, s1, h1⟩ : ∃ x1 s1, rdn 28629151 s = (x1, s1) := ⟨_, _, rfl⟩
      obtain ⟨x2, s2, h2⟩ : ∃ x2 s2, rdn 7 s1 = (x2, s2) := ⟨_, _, rfl⟩
      obtain ⟨x3, s3, h3⟩ : ∃ x3 s3, rdn 600 s2 = (x3, s3) := ⟨_, _, rfl⟩
      obtain ⟨x4, s4, h4⟩ : ∃ x4 s4, rdn 1099511627776 s3 = (x4, s4) := ⟨_, _, rfl⟩
      obtain ⟨x5, s5, h5⟩ : ∃ x5 s5, rdn 18446744073709551615 s4 = (x5, s5) := ⟨_, _, rfl⟩
      have H5 : Hid (one5 s = (⟨(x1 : Int), (x2 : Int), (x3 : Int), (x4 : Int), FareM.of x5⟩, s5)) := Lib.hid (by simp [one5, h1, h2, h3, h4, h5])
      have hx5 : x5 < 18446744073709551616 := by have := rdn_lt 18446744073709551615 s4; rw [h5] at this; dsimp only at this; omega
      have HSC := Lib.hid (FareM.of_lt hx5)
      have HOF := Lib.hid (fun w => of_any x5 hx5 w)
      have N1 : Hid (Calls Try.prog 36 #[.int .i64 28629151, .pointer (some ⟨p, 0, none⟩)] wr fun e w' => e = .returned (.int .i64 (x1 : Int)) ∧ DecInv w p g b B v l s1 w' ∧ Frm (fun k => k = g) wr w') := Lib.hid (HV.out.num (most := 28629151) h1 (by omega))
      have N2 : Hid (∀ wq, DecInv w p g b B v l s1 wq → Calls Try.prog 36 #[.int .i64 7, .pointer (some ⟨p, 0, none⟩)] wq fun e w' => e = .returned (.int .i64 (x2 : Int)) ∧ DecInv w p g b B v l s2 w' ∧ Frm (fun k => k = g) wq w') := Lib.hid fun wq h => h.num (most := 7) h2 (by omega)
      have N3 : Hid (∀ wq, DecInv w p g b B v l s2 wq → Calls Try.prog 36 #[.int .i64 600, .pointer (some ⟨p, 0, none⟩)] wq fun e w' => e = .returned (.int .i64 (x3 : Int)) ∧ DecInv w p g b B v l s3 w' ∧ Frm (fun k => k = g) wq w') := Lib.hid fun wq h => h.num (most := 600) h3 (by omega)
      have N4 : Hid (∀ wq, DecInv w p g b B v l s3 wq → Calls Try.prog 36 #[.int .i64 1099511627776, .pointer (some ⟨p, 0, none⟩)] wq fun e w' => e = .returned (.int .i64 (x4 : Int)) ∧ DecInv w p g b B v l s4 w' ∧ Frm (fun k => k = g) wq w') := Lib.hid fun wq h => h.num (most := 1099511627776) h4 (by omega)
      have N5 : Hid (∀ wq, DecInv w p g b B v l s4 wq → Calls Try.prog 37 #[.pointer (some ⟨g, 0, none⟩), .int .u64 18446744073709551615] wq fun e w' => e = .returned (.int .u64 (x5 : Int)) ∧ DecInv w p g b B v l s5 w' ∧ Frm (fun k => k = g) wq w') := Lib.hid fun wq h => h.num64 h5
      have hlti : (i : Int) < (n : Int) := by omega
      clear h1 h2 h3 h4 h5 hx5 hv hk
      go_wp2_with fail
      refine N1.out.mono ?_
      rintro e w5 ⟨rfl, v5, _⟩
      have HV5 := Lib.hid v5
      clear v5
      go_wp2_with fail
      refine (N2.out w5 HV5.out).mono ?_
      rintro e w6 ⟨rfl, v6, _⟩
      have HV6 := Lib.hid v6
      clear v6
      go_wp2_with fail
      refine (N3.out w6 HV6.out).mono ?_
      rintro e w7 ⟨rfl, v7, _⟩
      have HV7 := Lib.hid v7
      clear v7
      go_wp2_with fail
      refine (N4.out w7 HV7.out).mono ?_
      rintro e w8 ⟨rfl, v8, _⟩
      obtain ⟨w9, hw9⟩ : ∃ w9, w9 = w8.alloc (.cells #[.int .i64 (x1 : Int), .int .i64 (x2 : Int), .int .i64 (x3 : Int), .int .i64 (x4 : Int), .float .f64 0] 28) := ⟨_, rfl⟩
      have HV9 : Hid (DecInv w p g b B v l s4 w9) := Lib.hid (v8.fresh (by rw [hw9]; exact (Frm.refl _ w8).alloc _))
      have HB9 : Hid (Blk w9 w8.heap.size 28 (wcells ⟨(x1 : Int), (x2 : Int), (x3 : Int), (x4 : Int), 0⟩).toArray) := Lib.hid (by rw [hw9]; exact Blk.new w8 _ _)
      have hc9 : w9.cell? ⟨p, 0, none⟩ = some (.pointer (some ⟨g, 0, none⟩)) := HV9.out.pcell
      have hgk : g < w8.heap.size := by obtain ⟨cs, hb⟩ := v8.rdr.blk; exact hb.lt
      rw [hw9] at hc9
      clear v8
      go_wp2_with fail
      rw [← hw9]
      clear hc9 hw9
      generalize w8.heap.size = bx at HB9 hgk
      refine (N5.out w9 HV9.out).mono ?_
      rintro e w10 ⟨rfl, v10, f10⟩
      obtain ⟨cs9, hb9⟩ := HV9.out.rdr.blk
      have k10 : Blk w10 bx 28 (wcells ⟨(x1 : Int), (x2 : Int), (x3 : Int), (x4 : Int), 0⟩).toArray := HB9.out.frm f10 (HB9.out.apart hb9 (by decide))
      have HV10 := Lib.hid v10
      have HB10 := Lib.hid k10
      have e4 := k10.cell 4
      have z4 := k10.frozen 4
      have e4 : w10.cell? ⟨bx, 4, none⟩ = some (.float .f64 0) := e4
      clear v10 f10 hb9 k10
      go_wp2_with fail
      refine (HOF.out w10).mono ?_
      rintro e wz ⟨rfl, hwz⟩
      rw [hwz]
      clear hwz wz
      have HV11 := Lib.hid (HV10.out.poke HB10.out hgk 4 (.float .f64 (FareM.of x5)))
      have HB11 : Hid (Blk (w10.setCell ⟨bx, 4, none⟩ (.float .f64 (FareM.of x5))) bx 28 (wcells ⟨(x1 : Int), (x2 : Int), (x3 : Int), (x4 : Int), FareM.of x5⟩).toArray) := Lib.hid (HB10.out.set 4 (.float .f64 (FareM.of x5)))
      obtain ⟨W, hW⟩ : ∃ W, W = w10.setCell ⟨bx, 4, none⟩ (.float .f64 (FareM.of x5)) := ⟨_, rfl⟩
      rw [← hW] at HV11 HB11
      obtain ⟨len, A1, c1, rfl, hle⟩ : ∃ len A c, v = .slice A len c ∧ len = l.length := by obtain ⟨A, c, h, _⟩ := HV11.out.q.sl.shape; exact ⟨_, A, c, h, rfl⟩
      have HLE := Lib.hid hle
      clear hle
      have hcW : W.cell? ⟨b, 0, none⟩ = some (.slice A1 len c1) := HV11.out.q.blk.cell 0
      rw [hW] at hcW
      generalize FareM.of x5 = x5f at H5 HSC HV11 HB11 hW hcW ⊢
      clear HV10 HB10 HV9 HB9 HV7 HV6 HV5 N1 N2 N3 N4 N5 HOF HV
      go_wp2_with fail
      rw [← hW]
      have KEEP : Hid (∀ w', Frm (fun k => k = b ∨ (Value.slice A1 len c1).ownBlock = some k) W w' → w'.cell? ⟨bx, 0, none⟩ = some (.int .i64 (x1 : Int)) ∧ w'.cell? ⟨bx, 1, none⟩ = some (.int .i64 (x2 : Int)) ∧ w'.cell? ⟨bx, 2, none⟩ = some (.int .i64 (x3 : Int)) ∧ w'.cell? ⟨bx, 3, none⟩ = some (.int .i64 (x4 : Int)) ∧ w'.cell? ⟨bx, 4, none⟩ = some (.float .f64 x5f)) := Lib.hid fun w' F => by
        have d := five_blk (HB11.out.frm F (fun hh => hh.elim (fun e => HB11.out.apart HV11.out.q.blk (by decide) e) (fun e => HV11.out.q.sl.apart HB11.out (by decide) e)))
        exact ⟨d.1, d.2.1, d.2.2.1, d.2.2.2.1, d.2.2.2.2⟩
      have HADD : Hid (∀ wq, Fresh W wq → Calls Try.prog 11 #[.pointer (some ⟨b, 0, none⟩), .agg #[.int .i64 (x1 : Int), .int .i64 (x2 : Int), .int .i64 (x3 : Int), .int .i64 (x4 : Int), .float .f64 x5f]] wq fun e w' => AddPost wq B b (.slice A1 len c1) ⟨(x1 : Int), (x2 : Int), (x3 : Int), (x4 : Int), x5f⟩ l e w') := Lib.hid fun wq F => add_any wq B b _ l ⟨(x1 : Int), (x2 : Int), (x3 : Int), (x4 : Int), x5f⟩ (HV11.out.q.fresh F) HV11.out.good
      obtain ⟨cc, hcc⟩ : ∃ cc, cc = (add ⟨(x1 : Int), (x2 : Int), (x3 : Int), (x4 : Int), x5f⟩ l).1 := ⟨_, rfl⟩
      have HCC := Lib.hid hcc
      have HFRE := Lib.hid (fun (wq w4 : World) (F : Fresh W wq) (st : StepQ wq B b (.slice A1 len c1) (add ⟨(x1 : Int), (x2 : Int), (x3 : Int), (x4 : Int), x5f⟩ l).2 w4) => (HV11.out.fresh F).add HSC.out st)
      have hcd : W.drew.cell? ⟨b, 0, none⟩ = some (.slice A1 len c1) := HV11.out.q.blk.cell 0
      have HRL := Lib.hid HV11.out.q.sl.rd
      have hl0 : (0 : Int) ≤ (len : Int) := by omega
      clear hW hcW hcc
      unfold AddPost at HADD
      rw [← HCC.out] at HADD
      by_cases hlen : len = 0
      · have HBE : Hid (behind l ⟨(x1 : Int), (x2 : Int), (x3 : Int), (x4 : Int), x5f⟩ = false) := Lib.hid (by rw [List.eq_nil_of_length_eq_zero (HLE.out.symm.trans hlen)]; rfl)
        subst hlen
        by_cases hcz : cc = 0
        · subst hcz
          refine wp_region_held_drew (S := fun w' => w'.cell? ⟨bx, 0, none⟩ = some (.int .i64 (x1 : Int)) ∧ w'.cell? ⟨bx, 1, none⟩ = some (.int .i64 (x2 : Int)) ∧ w'.cell? ⟨bx, 2, none⟩ = some (.int .i64 (x3 : Int)) ∧ w'.cell? ⟨bx, 3, none⟩ = some (.int .i64 (x4 : Int)) ∧ w'.cell? ⟨bx, 4, none⟩ = some (.float .f64 x5f)) (by kernel_rfl) (KEEP.out _ ((Frm.refl (fun k => k = b ∨ (Value.slice A1 0 c1).ownBlock = some k) W).drew)) (fun hHeld => ?_)
          refine wpAnyH_take (i := 0) (v := ?_) (op_here) (by kernel_rfl) (by kernel_rfl) (by kernel_rfl) (fun _ _ _ h => h) (Or.inl ⟨by rfl, ?_⟩) (by assumption) ?_
          rotate_left 1
          (intro w hSw; (try dsimp only at hSw); go_simp; try with_reducible rfl)
          try simp only [Act.put, List.setIfInBounds_toArray, List.set_cons_zero, List.set_cons_succ]
          refine wpAnyH_take (i := 1) (v := ?_) (op_later (op_here)) (by kernel_rfl) (by kernel_rfl) (by kernel_rfl) (fun _ _ _ h => h) (Or.inl ⟨by rfl, ?_⟩) (by assumption) ?_
          rotate_left 1
          (intro w hSw; (try dsimp only at hSw); go_simp; try with_reducible rfl)
          try simp only [Act.put, List.setIfInBounds_toArray, List.set_cons_zero, List.set_cons_succ]
          refine wpAnyH_take (i := 2) (v := ?_) (op_later (op_later (op_here))) (by kernel_rfl) (by kernel_rfl) (by kernel_rfl) (fun _ _ _ h => h) (Or.inl ⟨by rfl, ?_⟩) (by assumption) ?_
          rotate_left 1
          (intro w hSw; (try dsimp only at hSw); go_simp; try with_reducible rfl)
          try simp only [Act.put, List.setIfInBounds_toArray, List.set_cons_zero, List.set_cons_succ]
          refine wpAnyH_take (i := 3) (v := undef) (op_later (op_later (op_later (op_here)))) (by kernel_rfl) (by kernel_rfl) (by kernel_rfl) (fun _ _ _ h => h) (Or.inr ⟨by rfl, rfl⟩) (by assumption) ?_
          try simp only [Act.put, List.setIfInBounds_toArray, List.set_cons_zero, List.set_cons_succ]
          refine wpAnyH_take (i := 4) (v := undef) (op_later (op_later (op_later (op_later (op_here))))) (by kernel_rfl) (by kernel_rfl) (by kernel_rfl) (fun _ _ _ h => h) (Or.inr ⟨by rfl, rfl⟩) (by assumption) ?_
          try simp only [Act.put, List.setIfInBounds_toArray, List.set_cons_zero, List.set_cons_succ]
          refine wpAnyH_take (i := 5) (v := undef) (op_later (op_later (op_later (op_later (op_later (op_here)))))) (by kernel_rfl) (by kernel_rfl) (by kernel_rfl) (fun _ _ _ h => h) (Or.inr ⟨by rfl, rfl⟩) (by assumption) ?_
          try simp only [Act.put, List.setIfInBounds_toArray, List.set_cons_zero, List.set_cons_succ]
          refine wpAnyH_take (i := 6) (v := undef) (op_later (op_later (op_later (op_later (op_later (op_later (op_here))))))) (by kernel_rfl) (by kernel_rfl) (by kernel_rfl) (fun _ _ _ h => h) (Or.inr ⟨by rfl, rfl⟩) (by assumption) ?_
          try simp only [Act.put, List.setIfInBounds_toArray, List.set_cons_zero, List.set_cons_succ]
          refine wpAnyH_take (i := 7) (v := undef) (op_later (op_later (op_later (op_later (op_later (op_later (op_later (op_here)))))))) (by kernel_rfl) (by kernel_rfl) (by kernel_rfl) (fun _ _ _ h => h) (Or.inr ⟨by rfl, rfl⟩) (by assumption) ?_
          try simp only [Act.put, List.setIfInBounds_toArray, List.set_cons_zero, List.set_cons_succ]
          refine wpAnyH_take (i := 8) (v := undef) (op_later (op_later (op_later (op_later (op_later (op_later (op_later (op_later (op_here))))))))) (by kernel_rfl) (by kernel_rfl) (by kernel_rfl) (fun _ _ _ h => h) (Or.inr ⟨by rfl, rfl⟩) (by assumption) ?_
          try simp only [Act.put, List.setIfInBounds_toArray, List.set_cons_zero, List.set_cons_succ]
          refine wpAnyH_take (i := 9) (v := undef) (op_later (op_later (op_later (op_later (op_later (op_later (op_later (op_later (op_later (op_here)))))))))) (by kernel_rfl) (by kernel_rfl) (by kernel_rfl) (fun _ _ _ h => h) (Or.inr ⟨by rfl, rfl⟩) (by assumption) ?_
          try simp only [Act.put, List.setIfInBounds_toArray, List.set_cons_zero, List.set_cons_succ]
          refine wpAnyH_take (i := 10) (v := undef) (op_later (op_later (op_later (op_later (op_later (op_later (op_later (op_later (op_later (op_later (op_here))))))))))) (by kernel_rfl) (by kernel_rfl) (by kernel_rfl) (fun _ _ _ h => h) (Or.inr ⟨by rfl, rfl⟩) (by assumption) ?_
          try simp only [Act.put, List.setIfInBounds_toArray, List.set_cons_zero, List.set_cons_succ]
          refine wpAnyH_take (i := 11) (v := undef) (op_later (op_later (op_later (op_later (op_later (op_later (op_later (op_later (op_later (op_later (op_later (op_here)))))))))))) (by kernel_rfl) (by kernel_rfl) (by kernel_rfl) (fun _ _ _ h => h) (Or.inr ⟨by rfl, rfl⟩) (by assumption) ?_
          try simp only [Act.put, List.setIfInBounds_toArray, List.set_cons_zero, List.set_cons_succ]
          refine wpAnyH_take (i := 12) (v := undef) (op_later (op_later (op_later (op_later (op_later (op_later (op_later (op_later (op_later (op_later (op_later (op_later (op_here))))))))))))) (by kernel_rfl) (by kernel_rfl) (by kernel_rfl) (fun _ _ _ h => h) (Or.inr ⟨by rfl, rfl⟩) (by assumption) ?_
          try simp only [Act.put, List.setIfInBounds_toArray, List.set_cons_zero, List.set_cons_succ]
          refine wpAnyH_take (i := 13) (v := undef) (op_later (op_later (op_later (op_later (op_later (op_later (op_later (op_later (op_later (op_later (op_later (op_later (op_later (op_here)))))))))))))) (by kernel_rfl) (by kernel_rfl) (by kernel_rfl) (fun _ _ _ h => h) (Or.inr ⟨by rfl, rfl⟩) (by assumption) ?_
          try simp only [Act.put, List.setIfInBounds_toArray, List.set_cons_zero, List.set_cons_succ]
          refine wpAnyH_take (i := 14) (v := undef) (op_later (op_later (op_later (op_later (op_later (op_later (op_later (op_later (op_later (op_later (op_later (op_later (op_later (op_later (op_here))))))))))))))) (by kernel_rfl) (by kernel_rfl) (by kernel_rfl) (fun _ _ _ h => h) (Or.inr ⟨by rfl, rfl⟩) (by assumption) ?_
          try simp only [Act.put, List.setIfInBounds_toArray, List.set_cons_zero, List.set_cons_succ]
          refine wpAnyH_take (i := 15) (v := ?_) (op_later (op_later (op_later (op_later (op_later (op_later (op_later (op_later (op_later (op_later (op_later (op_later (op_later (op_later (op_later (op_here)))))))))))))))) (by kernel_rfl) (by kernel_rfl) (by kernel_rfl) (fun _ _ _ h => h) (Or.inl ⟨by rfl, ?_⟩) (by assumption) ?_
          rotate_left 1
          (intro w hSw; (try dsimp only at hSw); go_simp; try with_reducible rfl)
          try simp only [Act.put, List.setIfInBounds_toArray, List.set_cons_zero, List.set_cons_succ]
          refine wpAnyH_take (i := 16) (v := ?_) (op_later (op_later (op_later (op_later (op_later (op_later (op_later (op_later (op_later (op_later (op_later (op_later (op_later (op_later (op_later (op_later (op_here))))))))))))))))) (by kernel_rfl) (by kernel_rfl) (by kernel_rfl) (fun _ _ _ h => h) (Or.inl ⟨by rfl, ?_⟩) (by assumption) ?_
          rotate_left 1
          (intro w hSw; (try dsimp only at hSw); go_simp; try with_reducible rfl)
          try simp only [Act.put, List.setIfInBounds_toArray, List.set_cons_zero, List.set_cons_succ]
          refine wpAnyH_take (i := 17) (v := ?_) (op_later (op_later (op_later (op_later (op_later (op_later (op_later (op_later (op_later (op_later (op_later (op_later (op_later (op_later (op_later (op_later (op_later (op_here)))))))))))))))))) (by kernel_rfl) (by kernel_rfl) (by kernel_rfl) (fun _ _ _ h => h) (Or.inl ⟨by rfl, ?_⟩) (by assumption) ?_
          rotate_left 1
          (intro w hSw; (try dsimp only at hSw); go_simp; try with_reducible rfl)
          try simp only [Act.put, List.setIfInBounds_toArray, List.set_cons_zero, List.set_cons_succ]
          refine wpAnyH_take (i := 18) (v := ?_) (op_later (op_later (op_later (op_later (op_later (op_later (op_later (op_later (op_later (op_later (op_later (op_later (op_later (op_later (op_later (op_later (op_later (op_later (op_here))))))))))))))))))) (by kernel_rfl) (by kernel_rfl) (by kernel_rfl) (fun _ _ _ h => h) (Or.inl ⟨by rfl, ?_⟩) (by assumption) ?_
          rotate_left 1
          (intro w hSw; (try dsimp only at hSw); go_simp; try with_reducible rfl)
          try simp only [Act.put, List.setIfInBounds_toArray, List.set_cons_zero, List.set_cons_succ]
          refine wpAnyH_ready (rs := [19]) (by kernel_rfl) (by simp) ?_
          refine AllReadyH.cons (op_later (op_later (op_later (op_later (op_later (op_later (op_later (op_later (op_later (op_later (op_later (op_later (op_later (op_later (op_later (op_later (op_later (op_later (op_later (op_here)))))))))))))))))))) (fun K hK => ?_) AllReadyH.nil
          go_simp
          refine (HADD.out W.drew ((Frm.refl _ W).drew)).mono ?_
          rintro e w4 ⟨rfl, st⟩
          have HST := Lib.hid st
          have HFA : Hid (Frm (fun k => k = b ∨ (Value.slice A1 0 c1).ownBlock = some k) W.drew w4) := Lib.hid (by obtain ⟨_, _, h, _⟩ := st; exact h)
          clear st
          refine hK.out _ _ (KEEP.out _ (((Frm.refl (fun k => k = b ∨ (Value.slice A1 0 c1).ownBlock = some k) W).drew).trans HFA.out)) (fun hHeld => ?_)
          clear hK K
          try simp only [Act.put, List.setIfInBounds_toArray, List.set_cons_zero, List.set_cons_succ]
          refine wpAnyH_take (i := 20) (v := ?_) (op_later (op_later (op_later (op_later (op_later (op_later (op_later (op_later (op_later (op_later (op_later (op_later (op_later (op_later (op_later (op_later (op_later (op_later (op_later (op_later (op_here))))))))))))))))))))) (by kernel_rfl) (by kernel_rfl) (by kernel_rfl) (fun _ _ _ h => h) (Or.inl ⟨by rfl, ?_⟩) (by assumption) ?_
          rotate_left 1
          (intro w hSw; (try dsimp only at hSw); go_simp; try with_reducible rfl)
          try simp only [Act.put, List.setIfInBounds_toArray, List.set_cons_zero, List.set_cons_succ]
          refine wpAnyH_take (i := 21) (v := ?_) (op_later (op_later (op_later (op_later (op_later (op_later (op_later (op_later (op_later (op_later (op_later (op_later (op_later (op_later (op_later (op_later (op_later (op_later (op_later (op_later (op_later (op_here)))))))))))))))))))))) (by kernel_rfl) (by kernel_rfl) (by kernel_rfl) (fun _ _ _ h => h) (Or.inl ⟨by rfl, ?_⟩) (by assumption) ?_
          rotate_left 1
          (intro w hSw; (try dsimp only at hSw); go_simp; try with_reducible rfl)
          try simp only [Act.put, List.setIfInBounds_toArray, List.set_cons_zero, List.set_cons_succ]
          refine wpAnyH_done (by kernel_rfl) ?_ _
          all_goals (
            obtain ⟨v', hv'⟩ := HFRE.out _ w4 ((Frm.refl _ W).drew) HST.out
            have HVN := Lib.hid hv'
            have HNX : Hid (decP bs = finP (pdec (n - (i + 1)) (add ⟨(x1 : Int), (x2 : Int), (x3 : Int), (x4 : Int), x5f⟩ l).2 s5)) := Lib.hid (by rw [hki, ← fin_on H5.out HBE.out HCC.out.symm, HFIN.out])
            clear hv'
            go_wp2_with fail
            go_roundw
            case rel => exact ⟨i + 1, v', _, s5, by omega, by go_num, HVN.out, HNX.out⟩
            case measure => simp [intOf]; omega)
        · have hcb : (cc == 0) = false := by rw [beq_eq_false_iff_ne]; exact hcz
          have hcb2 : (cc != 0) = true := by rw [bne_iff_ne]; exact hcz
          refine wp_region_held_drew (S := fun w' => w'.cell? ⟨bx, 0, none⟩ = some (.int .i64 (x1 : Int)) ∧ w'.cell? ⟨bx, 1, none⟩ = some (.int .i64 (x2 : Int)) ∧ w'.cell? ⟨bx, 2, none⟩ = some (.int .i64 (x3 : Int)) ∧ w'.cell? ⟨bx, 3, none⟩ = some (.int .i64 (x4 : Int)) ∧ w'.cell? ⟨bx, 4, none⟩ = some (.float .f64 x5f)) (by kernel_rfl) (KEEP.out _ ((Frm.refl (fun k => k = b ∨ (Value.slice A1 0 c1).ownBlock = some k) W).drew)) (fun hHeld => ?_)
          refine wpAnyH_take (i := 0) (v := ?_) (op_here) (by kernel_rfl) (by kernel_rfl) (by kernel_rfl) (fun _ _ _ h => h) (Or.inl ⟨by rfl, ?_⟩) (by assumption) ?_
          rotate_left 1
          (intro w hSw; (try dsimp only at hSw); go_simp; try with_reducible rfl)
          try simp only [Act.put, List.setIfInBounds_toArray, List.set_cons_zero, List.set_cons_succ]
          refine wpAnyH_take (i := 1) (v := ?_) (op_later (op_here)) (by kernel_rfl) (by kernel_rfl) (by kernel_rfl) (fun _ _ _ h => h) (Or.inl ⟨by rfl, ?_⟩) (by assumption) ?_
          rotate_left 1
          (intro w hSw; (try dsimp only at hSw); go_simp; try with_reducible rfl)
          try simp only [Act.put, List.setIfInBounds_toArray, List.set_cons_zero, List.set_cons_succ]
          refine wpAnyH_take (i := 2) (v := ?_) (op_later (op_later (op_here))) (by kernel_rfl) (by kernel_rfl) (by kernel_rfl) (fun _ _ _ h => h) (Or.inl ⟨by rfl, ?_⟩) (by assumption) ?_
          rotate_left 1
          (intro w hSw; (try dsimp only at hSw); go_simp; try with_reducible rfl)
          try simp only [Act.put, List.setIfInBounds_toArray, List.set_cons_zero, List.set_cons_succ]
          refine wpAnyH_take (i := 3) (v := undef) (op_later (op_later (op_later (op_here)))) (by kernel_rfl) (by kernel_rfl) (by kernel_rfl) (fun _ _ _ h => h) (Or.inr ⟨by rfl, rfl⟩) (by assumption) ?_
          try simp only [Act.put, List.setIfInBounds_toArray, List.set_cons_zero, List.set_cons_succ]
          refine wpAnyH_take (i := 4) (v := undef) (op_later (op_later (op_later (op_later (op_here))))) (by kernel_rfl) (by kernel_rfl) (by kernel_rfl) (fun _ _ _ h => h) (Or.inr ⟨by rfl, rfl⟩) (by assumption) ?_
          try simp only [Act.put, List.setIfInBounds_toArray, List.set_cons_zero, List.set_cons_succ]
          refine wpAnyH_take (i := 5) (v := undef) (op_later (op_later (op_later (op_later (op_later (op_here)))))) (by kernel_rfl) (by kernel_rfl) (by kernel_rfl) (fun _ _ _ h => h) (Or.inr ⟨by rfl, rfl⟩) (by assumption) ?_
          try simp only [Act.put, List.setIfInBounds_toArray, List.set_cons_zero, List.set_cons_succ]
          refine wpAnyH_take (i := 6) (v := undef) (op_later (op_later (op_later (op_later (op_later (op_later (op_here))))))) (by kernel_rfl) (by kernel_rfl) (by kernel_rfl) (fun _ _ _ h => h) (Or.inr ⟨by rfl, rfl⟩) (by assumption) ?_
          try simp only [Act.put, List.setIfInBounds_toArray, List.set_cons_zero, List.set_cons_succ]
          refine wpAnyH_take (i := 7) (v := undef) (op_later (op_later (op_later (op_later (op_later (op_later (op_later (op_here)))))))) (by kernel_rfl) (by kernel_rfl) (by kernel_rfl) (fun _ _ _ h => h) (Or.inr ⟨by rfl, rfl⟩) (by assumption) ?_
          try simp only [Act.put, List.setIfInBounds_toArray, List.set_cons_zero, List.set_cons_succ]
          refine wpAnyH_take (i := 8) (v := undef) (op_later (op_later (op_later (op_later (op_later (op_later (op_later (op_later (op_here))))))))) (by kernel_rfl) (by kernel_rfl) (by kernel_rfl) (fun _ _ _ h => h) (Or.inr ⟨by rfl, rfl⟩) (by assumption) ?_
          try simp only [Act.put, List.setIfInBounds_toArray, List.set_cons_zero, List.set_cons_succ]
          refine wpAnyH_take (i := 9) (v := undef) (op_later (op_later (op_later (op_later (op_later (op_later (op_later (op_later (op_later (op_here)))))))))) (by kernel_rfl) (by kernel_rfl) (by kernel_rfl) (fun _ _ _ h => h) (Or.inr ⟨by rfl, rfl⟩) (by assumption) ?_
          try simp only [Act.put, List.setIfInBounds_toArray, List.set_cons_zero, List.set_cons_succ]
          refine wpAnyH_take (i := 10) (v := undef) (op_later (op_later (op_later (op_later (op_later (op_later (op_later (op_later (op_later (op_later (op_here))))))))))) (by kernel_rfl) (by kernel_rfl) (by kernel_rfl) (fun _ _ _ h => h) (Or.inr ⟨by rfl, rfl⟩) (by assumption) ?_
          try simp only [Act.put, List.setIfInBounds_toArray, List.set_cons_zero, List.set_cons_succ]
          refine wpAnyH_take (i := 11) (v := undef) (op_later (op_later (op_later (op_later (op_later (op_later (op_later (op_later (op_later (op_later (op_later (op_here)))))))))))) (by kernel_rfl) (by kernel_rfl) (by kernel_rfl) (fun _ _ _ h => h) (Or.inr ⟨by rfl, rfl⟩) (by assumption) ?_
          try simp only [Act.put, List.setIfInBounds_toArray, List.set_cons_zero, List.set_cons_succ]
          refine wpAnyH_take (i := 12) (v := undef) (op_later (op_later (op_later (op_later (op_later (op_later (op_later (op_later (op_later (op_later (op_later (op_later (op_here))))))))))))) (by kernel_rfl) (by kernel_rfl) (by kernel_rfl) (fun _ _ _ h => h) (Or.inr ⟨by rfl, rfl⟩) (by assumption) ?_
          try simp only [Act.put, List.setIfInBounds_toArray, List.set_cons_zero, List.set_cons_succ]
          refine wpAnyH_take (i := 13) (v := undef) (op_later (op_later (op_later (op_later (op_later (op_later (op_later (op_later (op_later (op_later (op_later (op_later (op_later (op_here)))))))))))))) (by kernel_rfl) (by kernel_rfl) (by kernel_rfl) (fun _ _ _ h => h) (Or.inr ⟨by rfl, rfl⟩) (by assumption) ?_
          try simp only [Act.put, List.setIfInBounds_toArray, List.set_cons_zero, List.set_cons_succ]
          refine wpAnyH_take (i := 14) (v := undef) (op_later (op_later (op_later (op_later (op_later (op_later (op_later (op_later (op_later (op_later (op_later (op_later (op_later (op_later (op_here))))))))))))))) (by kernel_rfl) (by kernel_rfl) (by kernel_rfl) (fun _ _ _ h => h) (Or.inr ⟨by rfl, rfl⟩) (by assumption) ?_
          try simp only [Act.put, List.setIfInBounds_toArray, List.set_cons_zero, List.set_cons_succ]
          refine wpAnyH_take (i := 15) (v := ?_) (op_later (op_later (op_later (op_later (op_later (op_later (op_later (op_later (op_later (op_later (op_later (op_later (op_later (op_later (op_later (op_here)))))))))))))))) (by kernel_rfl) (by kernel_rfl) (by kernel_rfl) (fun _ _ _ h => h) (Or.inl ⟨by rfl, ?_⟩) (by assumption) ?_
          rotate_left 1
          (intro w hSw; (try dsimp only at hSw); go_simp; try with_reducible rfl)
          try simp only [Act.put, List.setIfInBounds_toArray, List.set_cons_zero, List.set_cons_succ]
          refine wpAnyH_take (i := 16) (v := ?_) (op_later (op_later (op_later (op_later (op_later (op_later (op_later (op_later (op_later (op_later (op_later (op_later (op_later (op_later (op_later (op_later (op_here))))))))))))))))) (by kernel_rfl) (by kernel_rfl) (by kernel_rfl) (fun _ _ _ h => h) (Or.inl ⟨by rfl, ?_⟩) (by assumption) ?_
          rotate_left 1
          (intro w hSw; (try dsimp only at hSw); go_simp; try with_reducible rfl)
          try simp only [Act.put, List.setIfInBounds_toArray, List.set_cons_zero, List.set_cons_succ]
          refine wpAnyH_take (i := 17) (v := ?_) (op_later (op_later (op_later (op_later (op_later (op_later (op_later (op_later (op_later (op_later (op_later (op_later (op_later (op_later (op_later (op_later (op_later (op_here)))))))))))))))))) (by kernel_rfl) (by kernel_rfl) (by kernel_rfl) (fun _ _ _ h => h) (Or.inl ⟨by rfl, ?_⟩) (by assumption) ?_
          rotate_left 1
          (intro w hSw; (try dsimp only at hSw); go_simp; try with_reducible rfl)
          try simp only [Act.put, List.setIfInBounds_toArray, List.set_cons_zero, List.set_cons_succ]
          refine wpAnyH_take (i := 18) (v := ?_) (op_later (op_later (op_later (op_later (op_later (op_later (op_later (op_later (op_later (op_later (op_later (op_later (op_later (op_later (op_later (op_later (op_later (op_later (op_here))))))))))))))))))) (by kernel_rfl) (by kernel_rfl) (by kernel_rfl) (fun _ _ _ h => h) (Or.inl ⟨by rfl, ?_⟩) (by assumption) ?_
          rotate_left 1
          (intro w hSw; (try dsimp only at hSw); go_simp; try with_reducible rfl)
          try simp only [Act.put, List.setIfInBounds_toArray, List.set_cons_zero, List.set_cons_succ]
          refine wpAnyH_ready (rs := [19]) (by kernel_rfl) (by simp) ?_
          refine AllReadyH.cons (op_later (op_later (op_later (op_later (op_later (op_later (op_later (op_later (op_later (op_later (op_later (op_later (op_later (op_later (op_later (op_later (op_later (op_later (op_later (op_here)))))))))))))))))))) (fun K hK => ?_) AllReadyH.nil
          go_simp
          refine (HADD.out W.drew ((Frm.refl _ W).drew)).mono ?_
          rintro e w4 ⟨rfl, st⟩
          have HST := Lib.hid st
          have HFA : Hid (Frm (fun k => k = b ∨ (Value.slice A1 0 c1).ownBlock = some k) W.drew w4) := Lib.hid (by obtain ⟨_, _, h, _⟩ := st; exact h)
          clear st
          refine hK.out _ _ (KEEP.out _ (((Frm.refl (fun k => k = b ∨ (Value.slice A1 0 c1).ownBlock = some k) W).drew).trans HFA.out)) (fun hHeld => ?_)
          clear hK K
          try simp only [Act.put, List.setIfInBounds_toArray, List.set_cons_zero, List.set_cons_succ]
          refine wpAnyH_take (i := 20) (v := ?_) (op_later (op_later (op_later (op_later (op_later (op_later (op_later (op_later (op_later (op_later (op_later (op_later (op_later (op_later (op_later (op_later (op_later (op_later (op_later (op_later (op_here))))))))))))))))))))) (by kernel_rfl) (by kernel_rfl) (by kernel_rfl) (fun _ _ _ h => h) (Or.inl ⟨by rfl, ?_⟩) (by assumption) ?_
          rotate_left 1
          (intro w hSw; (try dsimp only at hSw); go_simp; try with_reducible rfl)
          try simp only [Act.put, List.setIfInBounds_toArray, List.set_cons_zero, List.set_cons_succ]
          refine wpAnyH_take (i := 21) (v := ?_) (op_later (op_later (op_later (op_later (op_later (op_later (op_later (op_later (op_later (op_later (op_later (op_later (op_later (op_later (op_later (op_later (op_later (op_later (op_later (op_later (op_later (op_here)))))))))))))))))))))) (by kernel_rfl) (by kernel_rfl) (by kernel_rfl) (fun _ _ _ h => h) (Or.inl ⟨by rfl, ?_⟩) (by assumption) ?_
          rotate_left 1
          (intro w hSw; (try dsimp only at hSw); go_simp; try with_reducible rfl)
          try simp only [Act.put, List.setIfInBounds_toArray, List.set_cons_zero, List.set_cons_succ]
          refine wpAnyH_done (by kernel_rfl) ?_ _
          all_goals (
            obtain ⟨v', hv'⟩ := HFRE.out _ w4 ((Frm.refl _ W).drew) HST.out
            have HVN := Lib.hid hv'.frm
            have HNO : Hid (decP bs = none) := Lib.hid (by rw [HFIN.out]; exact fin_no H5.out (.inr (by rw [← HCC.out]; exact hcz)))
            clear hv'
            go_wp2_with fail
            exact bodyPost_ret (v := .tuple #[.pointer none, .int .i64 6]) (by simp [results, Try.results20, go_sem]) rfl (out_no HNO.out HVN.out))
      · obtain ⟨m, hm1⟩ : ∃ m, l.length = m + 1 := ⟨l.length - 1, by have := HLE.out; omega⟩
        have hml : m < l.length := by omega
        have hlm : len = m + 1 := by have := HLE.out; omega
        have hl200 : len ≤ 200 := by have := HLE.out; omega
        obtain ⟨bl, ol, rfl, _, p5⟩ := five_at HRL.out hml
        have hbe := last_get (x := ⟨(x1 : Int), (x2 : Int), (x3 : Int), (x4 : Int), x5f⟩) hm1
        obtain ⟨y, hy⟩ : ∃ y, y = l[m]'hml := ⟨_, rfl⟩
        rw [← hy] at p5 hbe
        clear hy
        obtain ⟨yi, yc, ym, yt, ys⟩ := y
        have HOR := Lib.hid (fun wq => order_any yi yc ym yt ys (x1 : Int) (x2 : Int) (x3 : Int) (x4 : Int) x5f wq)
        generalize ord ⟨yi, yc, ym, yt, ys⟩ ⟨(x1 : Int), (x2 : Int), (x3 : Int), (x4 : Int), x5f⟩ = o at hbe HOR
        have P5 : Hid (∀ w', Fresh W w' → w'.cell? ⟨bl, ol + m * 5, none⟩ = some (.int .i64 yi) ∧ w'.cell? ⟨bl, ol + m * 5 + 1, none⟩ = some (.int .i64 yc) ∧ w'.cell? ⟨bl, ol + m * 5 + 2, none⟩ = some (.int .i64 ym) ∧ w'.cell? ⟨bl, ol + m * 5 + 3, none⟩ = some (.int .i64 yt) ∧ w'.cell? ⟨bl, ol + m * 5 + 4, none⟩ = some (.float .f64 ys)) := Lib.hid fun w' F => by
          have d := p5.fresh F
          exact ⟨d.1, d.2.1, d.2.2.1, d.2.2.2.1, d.2.2.2.2⟩
        obtain ⟨y0, y1, y2, y3, y4⟩ := p5
        dsimp only at y0 y1 y2 y3 y4
        have y0 : W.drew.cell? ⟨bl, ol + m * 5, none⟩ = some (.int .i64 yi) := y0
        have y1 : W.drew.cell? ⟨bl, ol + m * 5 + 1, none⟩ = some (.int .i64 yc) := y1
        have y2 : W.drew.cell? ⟨bl, ol + m * 5 + 2, none⟩ = some (.int .i64 ym) := y2
        have y3 : W.drew.cell? ⟨bl, ol + m * 5 + 3, none⟩ = some (.int .i64 yt) := y3
        have y4 : W.drew.cell? ⟨bl, ol + m * 5 + 4, none⟩ = some (.float .f64 ys) := y4
        have hs1 : IntKind.i64.wrap ((len : Int) - 1) = (m : Int) := by rw [show (len : Int) - 1 = (m : Int) by omega]; exact IntWalk.i64_in _ (by omega)
        have hm0 : (0 : Int) ≤ (m : Int) := by omega
        have hmi : (m : Int) < (len : Int) := by omega
        have hli : (0 : Int) < (len : Int) := by omega
        have hli2 : 0 < len := by omega
        clear hm1 hlen hlm hml
        by_cases ho : 0 < o
        · have HBE : Hid (behind l ⟨(x1 : Int), (x2 : Int), (x3 : Int), (x4 : Int), x5f⟩ = true) := Lib.hid (by rw [hbe]; simpa using ho)
          have hot : decide (0 < o) = true := by simpa using ho
          clear hbe
          refine wp_region_held_drew (S := fun w' => w'.cell? ⟨bx, 0, none⟩ = some (.int .i64 (x1 : Int)) ∧ w'.cell? ⟨bx, 1, none⟩ = some (.int .i64 (x2 : Int)) ∧ w'.cell? ⟨bx, 2, none⟩ = some (.int .i64 (x3 : Int)) ∧ w'.cell? ⟨bx, 3, none⟩ = some (.int .i64 (x4 : Int)) ∧ w'.cell? ⟨bx, 4, none⟩ = some (.float .f64 x5f)) (by kernel_rfl) (KEEP.out _ ((Frm.refl (fun k => k = b ∨ (Value.slice (some ⟨bl, ol, none⟩) len c1).ownBlock = some k) W).drew)) (fun hHeld => ?_)
          refine wpAnyH_take (i := 0) (v := ?_) (op_here) (by kernel_rfl) (by kernel_rfl) (by kernel_rfl) (fun _ _ _ h => h) (Or.inl ⟨by rfl, ?_⟩) (by assumption) ?_
          rotate_left 1
          (intro w hSw; (try dsimp only at hSw); go_simp; try with_reducible rfl)
          try simp only [Act.put, List.setIfInBounds_toArray, List.set_cons_zero, List.set_cons_succ]
          refine wpAnyH_take (i := 1) (v := ?_) (op_later (op_here)) (by kernel_rfl) (by kernel_rfl) (by kernel_rfl) (fun _ _ _ h => h) (Or.inl ⟨by rfl, ?_⟩) (by assumption) ?_
          rotate_left 1
          (intro w hSw; (try dsimp only at hSw); go_simp; try with_reducible rfl)
          try simp only [Act.put, List.setIfInBounds_toArray, List.set_cons_zero, List.set_cons_succ]
          refine wpAnyH_take (i := 2) (v := ?_) (op_later (op_later (op_here))) (by kernel_rfl) (by kernel_rfl) (by kernel_rfl) (fun _ _ _ h => h) (Or.inl ⟨by rfl, ?_⟩) (by assumption) ?_
          rotate_left 1
          (intro w hSw; (try dsimp only at hSw); go_simp; try with_reducible rfl)
          try simp only [Act.put, List.setIfInBounds_toArray, List.set_cons_zero, List.set_cons_succ]
          refine wpAnyH_take (i := 3) (v := ?_) (op_later (op_later (op_later (op_here)))) (by kernel_rfl) (by kernel_rfl) (by kernel_rfl) (fun _ _ _ h => h) (Or.inl ⟨by rfl, ?_⟩) (by assumption) ?_
          rotate_left 1
          (intro w hSw; (try dsimp only at hSw); go_simp; try with_reducible rfl)
          try simp only [Act.put, List.setIfInBounds_toArray, List.set_cons_zero, List.set_cons_succ]
          refine wpAnyH_take (i := 4) (v := ?_) (op_later (op_later (op_later (op_later (op_here))))) (by kernel_rfl) (by kernel_rfl) (by kernel_rfl) (fun _ _ _ h => h) (Or.inl ⟨by rfl, ?_⟩) (by assumption) ?_
          rotate_left 1
          (intro w hSw; (try dsimp only at hSw); go_simp; try with_reducible rfl)
          try simp only [Act.put, List.setIfInBounds_toArray, List.set_cons_zero, List.set_cons_succ]
          refine wpAnyH_take (i := 5) (v := ?_) (op_later (op_later (op_later (op_later (op_later (op_here)))))) (by kernel_rfl) (by kernel_rfl) (by kernel_rfl) (fun _ _ _ h => h) (Or.inl ⟨by rfl, ?_⟩) (by assumption) ?_
          rotate_left 1
          (intro w hSw; (try dsimp only at hSw); go_simp; try with_reducible rfl)
          try simp only [Act.put, List.setIfInBounds_toArray, List.set_cons_zero, List.set_cons_succ]
          refine wpAnyH_take (i := 7) (v := ?_) (op_later (op_later (op_later (op_later (op_later (op_later (op_later (op_here)))))))) (by kernel_rfl) (by kernel_rfl) (by kernel_rfl) (fun _ _ _ h => h) (Or.inl ⟨by rfl, ?_⟩) (by assumption) ?_
          rotate_left 1
          (intro w hSw; (try dsimp only at hSw); go_simp; try with_reducible rfl)
          try simp only [Act.put, List.setIfInBounds_toArray, List.set_cons_zero, List.set_cons_succ]
          refine wpAnyH_take (i := 8) (v := ?_) (op_later (op_later (op_later (op_later (op_later (op_later (op_later (op_later (op_here))))))))) (by kernel_rfl) (by kernel_rfl) (by kernel_rfl) (fun _ _ _ h => h) (Or.inl ⟨by rfl, ?_⟩) (by assumption) ?_
          rotate_left 1
          (intro w hSw; (try dsimp only at hSw); go_simp; try with_reducible rfl)
          try simp only [Act.put, List.setIfInBounds_toArray, List.set_cons_zero, List.set_cons_succ]
          refine wpAnyH_take (i := 11) (v := ?_) (op_later (op_later (op_later (op_later (op_later (op_later (op_later (op_later (op_later (op_later (op_later (op_here)))))))))))) (by kernel_rfl) (by kernel_rfl) (by kernel_rfl) (fun _ _ _ h => h) (Or.inl ⟨by rfl, ?_⟩) (by assumption) ?_
          rotate_left 1
          (intro w hSw; (try dsimp only at hSw); go_simp; try with_reducible rfl)
          try simp only [Act.put, List.setIfInBounds_toArray, List.set_cons_zero, List.set_cons_succ]
          refine wpAnyH_take (i := 12) (v := ?_) (op_later (op_later (op_later (op_later (op_later (op_later (op_later (op_later (op_later (op_later (op_later (op_later (op_here))))))))))))) (by kernel_rfl) (by kernel_rfl) (by kernel_rfl) (fun _ _ _ h => h) (Or.inl ⟨by rfl, ?_⟩) (by assumption) ?_
          rotate_left 1
          (intro w hSw; (try dsimp only at hSw); go_simp; try with_reducible rfl)
          try simp only [Act.put, List.setIfInBounds_toArray, List.set_cons_zero, List.set_cons_succ]
          refine wpAnyH_ready (rs := [6]) (by kernel_rfl) (by simp) ?_
          refine AllReadyH.cons (op_later (op_later (op_later (op_later (op_later (op_later (op_here))))))) (fun K hK => ?_) AllReadyH.nil
          go_simp
          refine hK.out _ _ (KEEP.out _ ((Frm.refl (fun k => k = b ∨ (Value.slice (some ⟨bl, ol, none⟩) len c1).ownBlock = some k) W).drew)) (fun hHeld => ?_)
          clear hK K
          try simp only [Act.put, List.setIfInBounds_toArray, List.set_cons_zero, List.set_cons_succ]
          refine wpAnyH_take (i := 9) (v := ?_) (op_later (op_later (op_later (op_later (op_later (op_later (op_later (op_later (op_later (op_here)))))))))) (by kernel_rfl) (by kernel_rfl) (by kernel_rfl) (fun _ _ _ h => h) (Or.inl ⟨by rfl, ?_⟩) (by assumption) ?_
          rotate_left 1
          (intro w hSw; (try dsimp only at hSw); go_simp; try with_reducible rfl)
          try simp only [Act.put, List.setIfInBounds_toArray, List.set_cons_zero, List.set_cons_succ]
          refine wpAnyH_ready (rs := [10]) (by kernel_rfl) (by simp) ?_
          refine AllReadyH.cons (op_later (op_later (op_later (op_later (op_later (op_later (op_later (op_later (op_later (op_later (op_here))))))))))) (fun K hK => ?_) AllReadyH.nil
          go_simp
          refine hK.out _ _ (KEEP.out _ ((Frm.refl (fun k => k = b ∨ (Value.slice (some ⟨bl, ol, none⟩) len c1).ownBlock = some k) W).drew)) (fun hHeld => ?_)
          clear hK K
          try simp only [Act.put, List.setIfInBounds_toArray, List.set_cons_zero, List.set_cons_succ]
          refine wpAnyH_ready (rs := [13]) (by kernel_rfl) (by simp) ?_
          refine AllReadyH.cons (op_later (op_later (op_later (op_later (op_later (op_later (op_later (op_later (op_later (op_later (op_later (op_later (op_later (op_here)))))))))))))) (fun K hK => ?_) AllReadyH.nil
          go_simp
          refine (HOR.out _).mono ?_
          rintro e w3 ⟨rfl, f3⟩
          have HF3 : Hid (Fresh W.drew w3) := Lib.hid f3
          clear f3
          refine hK.out _ _ (KEEP.out _ (((Frm.refl (fun k => k = b ∨ (Value.slice (some ⟨bl, ol, none⟩) len c1).ownBlock = some k) W).drew).trans (Fresh.frm HF3.out))) (fun hHeld => ?_)
          clear hK K
          try simp only [Act.put, List.setIfInBounds_toArray, List.set_cons_zero, List.set_cons_succ]
          refine wpAnyH_take (i := 14) (v := ?_) (op_later (op_later (op_later (op_later (op_later (op_later (op_later (op_later (op_later (op_later (op_later (op_later (op_later (op_later (op_here))))))))))))))) (by kernel_rfl) (by kernel_rfl) (by kernel_rfl) (fun _ _ _ h => h) (Or.inl ⟨by rfl, ?_⟩) (by assumption) ?_
          rotate_left 1
          (intro w hSw; (try dsimp only at hSw); go_simp; try with_reducible rfl)
          try simp only [Act.put, List.setIfInBounds_toArray, List.set_cons_zero, List.set_cons_succ]
          refine wpAnyH_take (i := 15) (v := ?_) (op_later (op_later (op_later (op_later (op_later (op_later (op_later (op_later (op_later (op_later (op_later (op_later (op_later (op_later (op_later (op_here)))))))))))))))) (by kernel_rfl) (by kernel_rfl) (by kernel_rfl) (fun _ _ _ h => h) (Or.inl ⟨by rfl, ?_⟩) (by assumption) ?_
          rotate_left 1
          (intro w hSw; (try dsimp only at hSw); go_simp; try with_reducible rfl)
          try simp only [Act.put, List.setIfInBounds_toArray, List.set_cons_zero, List.set_cons_succ]
          refine wpAnyH_take (i := 16) (v := ?_) (op_later (op_later (op_later (op_later (op_later (op_later (op_later (op_later (op_later (op_later (op_later (op_later (op_later (op_later (op_later (op_later (op_here))))))))))))))))) (by kernel_rfl) (by kernel_rfl) (by kernel_rfl) (fun _ _ _ h => h) (Or.inl ⟨by rfl, ?_⟩) (by assumption) ?_
          rotate_left 1
          (intro w hSw; (try dsimp only at hSw); go_simp; try with_reducible rfl)
          try simp only [Act.put, List.setIfInBounds_toArray, List.set_cons_zero, List.set_cons_succ]
          refine wpAnyH_take (i := 17) (v := undef) (op_later (op_later (op_later (op_later (op_later (op_later (op_later (op_later (op_later (op_later (op_later (op_later (op_later (op_later (op_later (op_later (op_later (op_here)))))))))))))))))) (by kernel_rfl) (by kernel_rfl) (by kernel_rfl) (fun _ _ _ h => h) (Or.inr ⟨by rfl, rfl⟩) (by assumption) ?_
          try simp only [Act.put, List.setIfInBounds_toArray, List.set_cons_zero, List.set_cons_succ]
          refine wpAnyH_take (i := 18) (v := undef) (op_later (op_later (op_later (op_later (op_later (op_later (op_later (op_later (op_later (op_later (op_later (op_later (op_later (op_later (op_later (op_later (op_later (op_later (op_here))))))))))))))))))) (by kernel_rfl) (by kernel_rfl) (by kernel_rfl) (fun _ _ _ h => h) (Or.inr ⟨by rfl, rfl⟩) (by assumption) ?_
          try simp only [Act.put, List.setIfInBounds_toArray, List.set_cons_zero, List.set_cons_succ]
          refine wpAnyH_take (i := 19) (v := undef) (op_later (op_later (op_later (op_later (op_later (op_later (op_later (op_later (op_later (op_later (op_later (op_later (op_later (op_later (op_later (op_later (op_later (op_later (op_later (op_here)))))))))))))))))))) (by kernel_rfl) (by kernel_rfl) (by kernel_rfl) (fun _ _ _ h => h) (Or.inr ⟨by rfl, rfl⟩) (by assumption) ?_
          try simp only [Act.put, List.setIfInBounds_toArray, List.set_cons_zero, List.set_cons_succ]
          refine wpAnyH_take (i := 20) (v := undef) (op_later (op_later (op_later (op_later (op_later (op_later (op_later (op_later (op_later (op_later (op_later (op_later (op_later (op_later (op_later (op_later (op_later (op_later (op_later (op_later (op_here))))))))))))))))))))) (by kernel_rfl) (by kernel_rfl) (by kernel_rfl) (fun _ _ _ h => h) (Or.inr ⟨by rfl, rfl⟩) (by assumption) ?_
          try simp only [Act.put, List.setIfInBounds_toArray, List.set_cons_zero, List.set_cons_succ]
          refine wpAnyH_take (i := 21) (v := ?_) (op_later (op_later (op_later (op_later (op_later (op_later (op_later (op_later (op_later (op_later (op_later (op_later (op_later (op_later (op_later (op_later (op_later (op_later (op_later (op_later (op_later (op_here)))))))))))))))))))))) (by kernel_rfl) (by kernel_rfl) (by kernel_rfl) (fun _ _ _ h => h) (Or.inl ⟨by rfl, ?_⟩) (by assumption) ?_
          rotate_left 1
          (intro w hSw; (try dsimp only at hSw); go_simp; try with_reducible rfl)
          try simp only [Act.put, List.setIfInBounds_toArray, List.set_cons_zero, List.set_cons_succ]
          refine wpAnyH_done (by kernel_rfl) ?_ _
          all_goals (
            have HVN := Lib.hid (HV11.out.frm.trans ((Frm.refl _ W).drew.trans HF3.out))
            have HNO : Hid (decP bs = none) := Lib.hid (by rw [HFIN.out]; exact fin_no H5.out (.inl HBE.out))
            go_wp2_with fail
            exact bodyPost_ret (v := .tuple #[.pointer none, .int .i64 6]) (by simp [results, Try.results20, go_sem]) rfl (out_no HNO.out HVN.out))
        · have HBE : Hid (behind l ⟨(x1 : Int), (x2 : Int), (x3 : Int), (x4 : Int), x5f⟩ = false) := Lib.hid (by rw [hbe]; simpa using ho)
          have hod : decide (0 < o) = false := by simpa using ho
          clear hbe ho
          by_cases hcz : cc = 0
          · subst hcz
            refine wp_region_held_drew (S := fun w' => w'.cell? ⟨bx, 0, none⟩ = some (.int .i64 (x1 : Int)) ∧ w'.cell? ⟨bx, 1, none⟩ = some (.int .i64 (x2 : Int)) ∧ w'.cell? ⟨bx, 2, none⟩ = some (.int .i64 (x3 : Int)) ∧ w'.cell? ⟨bx, 3, none⟩ = some (.int .i64 (x4 : Int)) ∧ w'.cell? ⟨bx, 4, none⟩ = some (.float .f64 x5f)) (by kernel_rfl) (KEEP.out _ ((Frm.refl (fun k => k = b ∨ (Value.slice (some ⟨bl, ol, none⟩) len c1).ownBlock = some k) W).drew)) (fun hHeld => ?_)
            refine wpAnyH_take (i := 0) (v := ?_) (op_here) (by kernel_rfl) (by kernel_rfl) (by kernel_rfl) (fun _ _ _ h => h) (Or.inl ⟨by rfl, ?_⟩) (by assumption) ?_
            rotate_left 1
            (intro w hSw; (try dsimp only at hSw); go_simp; try with_reducible rfl)
            try simp only [Act.put, List.setIfInBounds_toArray, List.set_cons_zero, List.set_cons_succ]
            refine wpAnyH_take (i := 1) (v := ?_) (op_later (op_here)) (by kernel_rfl) (by kernel_rfl) (by kernel_rfl) (fun _ _ _ h => h) (Or.inl ⟨by rfl, ?_⟩) (by assumption) ?_
            rotate_left 1
            (intro w hSw; (try dsimp only at hSw); go_simp; try with_reducible rfl)
            try simp only [Act.put, List.setIfInBounds_toArray, List.set_cons_zero, List.set_cons_succ]
            refine wpAnyH_take (i := 2) (v := ?_) (op_later (op_later (op_here))) (by kernel_rfl) (by kernel_rfl) (by kernel_rfl) (fun _ _ _ h => h) (Or.inl ⟨by rfl, ?_⟩) (by assumption) ?_
            rotate_left 1
            (intro w hSw; (try dsimp only at hSw); go_simp; try with_reducible rfl)
            try simp only [Act.put, List.setIfInBounds_toArray, List.set_cons_zero, List.set_cons_succ]
            refine wpAnyH_take (i := 3) (v := ?_) (op_later (op_later (op_later (op_here)))) (by kernel_rfl) (by kernel_rfl) (by kernel_rfl) (fun _ _ _ h => h) (Or.inl ⟨by rfl, ?_⟩) (by assumption) ?_
            rotate_left 1
            (intro w hSw; (try dsimp only at hSw); go_simp; try with_reducible rfl)
            try simp only [Act.put, List.setIfInBounds_toArray, List.set_cons_zero, List.set_cons_succ]
            refine wpAnyH_take (i := 4) (v := ?_) (op_later (op_later (op_later (op_later (op_here))))) (by kernel_rfl) (by kernel_rfl) (by kernel_rfl) (fun _ _ _ h => h) (Or.inl ⟨by rfl, ?_⟩) (by assumption) ?_
            rotate_left 1
            (intro w hSw; (try dsimp only at hSw); go_simp; try with_reducible rfl)
            try simp only [Act.put, List.setIfInBounds_toArray, List.set_cons_zero, List.set_cons_succ]
            refine wpAnyH_take (i := 5) (v := ?_) (op_later (op_later (op_later (op_later (op_later (op_here)))))) (by kernel_rfl) (by kernel_rfl) (by kernel_rfl) (fun _ _ _ h => h) (Or.inl ⟨by rfl, ?_⟩) (by assumption) ?_
            rotate_left 1
            (intro w hSw; (try dsimp only at hSw); go_simp; try with_reducible rfl)
            try simp only [Act.put, List.setIfInBounds_toArray, List.set_cons_zero, List.set_cons_succ]
            refine wpAnyH_take (i := 7) (v := ?_) (op_later (op_later (op_later (op_later (op_later (op_later (op_later (op_here)))))))) (by kernel_rfl) (by kernel_rfl) (by kernel_rfl) (fun _ _ _ h => h) (Or.inl ⟨by rfl, ?_⟩) (by assumption) ?_
            rotate_left 1
            (intro w hSw; (try dsimp only at hSw); go_simp; try with_reducible rfl)
            try simp only [Act.put, List.setIfInBounds_toArray, List.set_cons_zero, List.set_cons_succ]
            refine wpAnyH_take (i := 8) (v := ?_) (op_later (op_later (op_later (op_later (op_later (op_later (op_later (op_later (op_here))))))))) (by kernel_rfl) (by kernel_rfl) (by kernel_rfl) (fun _ _ _ h => h) (Or.inl ⟨by rfl, ?_⟩) (by assumption) ?_
            rotate_left 1
            (intro w hSw; (try dsimp only at hSw); go_simp; try with_reducible rfl)
            try simp only [Act.put, List.setIfInBounds_toArray, List.set_cons_zero, List.set_cons_succ]
            refine wpAnyH_take (i := 11) (v := ?_) (op_later (op_later (op_later (op_later (op_later (op_later (op_later (op_later (op_later (op_later (op_later (op_here)))))))))))) (by kernel_rfl) (by kernel_rfl) (by kernel_rfl) (fun _ _ _ h => h) (Or.inl ⟨by rfl, ?_⟩) (by assumption) ?_
            rotate_left 1
            (intro w hSw; (try dsimp only at hSw); go_simp; try with_reducible rfl)
            try simp only [Act.put, List.setIfInBounds_toArray, List.set_cons_zero, List.set_cons_succ]
            refine wpAnyH_take (i := 12) (v := ?_) (op_later (op_later (op_later (op_later (op_later (op_later (op_later (op_later (op_later (op_later (op_later (op_later (op_here))))))))))))) (by kernel_rfl) (by kernel_rfl) (by kernel_rfl) (fun _ _ _ h => h) (Or.inl ⟨by rfl, ?_⟩) (by assumption) ?_
            rotate_left 1
            (intro w hSw; (try dsimp only at hSw); go_simp; try with_reducible rfl)
            try simp only [Act.put, List.setIfInBounds_toArray, List.set_cons_zero, List.set_cons_succ]
            refine wpAnyH_ready (rs := [6]) (by kernel_rfl) (by simp) ?_
            refine AllReadyH.cons (op_later (op_later (op_later (op_later (op_later (op_later (op_here))))))) (fun K hK => ?_) AllReadyH.nil
            go_simp
            refine hK.out _ _ (KEEP.out _ ((Frm.refl (fun k => k = b ∨ (Value.slice (some ⟨bl, ol, none⟩) len c1).ownBlock = some k) W).drew)) (fun hHeld => ?_)
            clear hK K
            try simp only [Act.put, List.setIfInBounds_toArray, List.set_cons_zero, List.set_cons_succ]
            refine wpAnyH_take (i := 9) (v := ?_) (op_later (op_later (op_later (op_later (op_later (op_later (op_later (op_later (op_later (op_here)))))))))) (by kernel_rfl) (by kernel_rfl) (by kernel_rfl) (fun _ _ _ h => h) (Or.inl ⟨by rfl, ?_⟩) (by assumption) ?_
            rotate_left 1
            (intro w hSw; (try dsimp only at hSw); go_simp; try with_reducible rfl)
            try simp only [Act.put, List.setIfInBounds_toArray, List.set_cons_zero, List.set_cons_succ]
            refine wpAnyH_ready (rs := [10]) (by kernel_rfl) (by simp) ?_
            refine AllReadyH.cons (op_later (op_later (op_later (op_later (op_later (op_later (op_later (op_later (op_later (op_later (op_here))))))))))) (fun K hK => ?_) AllReadyH.nil
            go_simp
            refine hK.out _ _ (KEEP.out _ ((Frm.refl (fun k => k = b ∨ (Value.slice (some ⟨bl, ol, none⟩) len c1).ownBlock = some k) W).drew)) (fun hHeld => ?_)
            clear hK K
            try simp only [Act.put, List.setIfInBounds_toArray, List.set_cons_zero, List.set_cons_succ]
            refine wpAnyH_ready (rs := [13]) (by kernel_rfl) (by simp) ?_
            refine AllReadyH.cons (op_later (op_later (op_later (op_later (op_later (op_later (op_later (op_later (op_later (op_later (op_later (op_later (op_later (op_here)))))))))))))) (fun K hK => ?_) AllReadyH.nil
            go_simp
            refine (HOR.out _).mono ?_
            rintro e w3 ⟨rfl, f3⟩
            have HF3 : Hid (Fresh W.drew w3) := Lib.hid f3
            clear f3
            refine hK.out _ _ (KEEP.out _ (((Frm.refl (fun k => k = b ∨ (Value.slice (some ⟨bl, ol, none⟩) len c1).ownBlock = some k) W).drew).trans (Fresh.frm HF3.out))) (fun hHeld => ?_)
            clear hK K
            try simp only [Act.put, List.setIfInBounds_toArray, List.set_cons_zero, List.set_cons_succ]
            refine wpAnyH_take (i := 14) (v := ?_) (op_later (op_later (op_later (op_later (op_later (op_later (op_later (op_later (op_later (op_later (op_later (op_later (op_later (op_later (op_here))))))))))))))) (by kernel_rfl) (by kernel_rfl) (by kernel_rfl) (fun _ _ _ h => h) (Or.inl ⟨by rfl, ?_⟩) (by assumption) ?_
            rotate_left 1
            (intro w hSw; (try dsimp only at hSw); go_simp; try with_reducible rfl)
            try simp only [Act.put, List.setIfInBounds_toArray, List.set_cons_zero, List.set_cons_succ]
            refine wpAnyH_take (i := 15) (v := ?_) (op_later (op_later (op_later (op_later (op_later (op_later (op_later (op_later (op_later (op_later (op_later (op_later (op_later (op_later (op_later (op_here)))))))))))))))) (by kernel_rfl) (by kernel_rfl) (by kernel_rfl) (fun _ _ _ h => h) (Or.inl ⟨by rfl, ?_⟩) (by assumption) ?_
            rotate_left 1
            (intro w hSw; (try dsimp only at hSw); go_simp; try with_reducible rfl)
            try simp only [Act.put, List.setIfInBounds_toArray, List.set_cons_zero, List.set_cons_succ]
            refine wpAnyH_take (i := 16) (v := ?_) (op_later (op_later (op_later (op_later (op_later (op_later (op_later (op_later (op_later (op_later (op_later (op_later (op_later (op_later (op_later (op_later (op_here))))))))))))))))) (by kernel_rfl) (by kernel_rfl) (by kernel_rfl) (fun _ _ _ h => h) (Or.inl ⟨by rfl, ?_⟩) (by assumption) ?_
            rotate_left 1
            (intro w hSw; (try dsimp only at hSw); go_simp; try with_reducible rfl)
            try simp only [Act.put, List.setIfInBounds_toArray, List.set_cons_zero, List.set_cons_succ]
            refine wpAnyH_take (i := 17) (v := ?_) (op_later (op_later (op_later (op_later (op_later (op_later (op_later (op_later (op_later (op_later (op_later (op_later (op_later (op_later (op_later (op_later (op_later (op_here)))))))))))))))))) (by kernel_rfl) (by kernel_rfl) (by kernel_rfl) (fun _ _ _ h => h) (Or.inl ⟨by rfl, ?_⟩) (by assumption) ?_
            rotate_left 1
            (intro w hSw; (try dsimp only at hSw); go_simp; try with_reducible rfl)
            try simp only [Act.put, List.setIfInBounds_toArray, List.set_cons_zero, List.set_cons_succ]
            refine wpAnyH_take (i := 18) (v := ?_) (op_later (op_later (op_later (op_later (op_later (op_later (op_later (op_later (op_later (op_later (op_later (op_later (op_later (op_later (op_later (op_later (op_later (op_later (op_here))))))))))))))))))) (by kernel_rfl) (by kernel_rfl) (by kernel_rfl) (fun _ _ _ h => h) (Or.inl ⟨by rfl, ?_⟩) (by assumption) ?_
            rotate_left 1
            (intro w hSw; (try dsimp only at hSw); go_simp; try with_reducible rfl)
            try simp only [Act.put, List.setIfInBounds_toArray, List.set_cons_zero, List.set_cons_succ]
            refine wpAnyH_ready (rs := [19]) (by kernel_rfl) (by simp) ?_
            refine AllReadyH.cons (op_later (op_later (op_later (op_later (op_later (op_later (op_later (op_later (op_later (op_later (op_later (op_later (op_later (op_later (op_later (op_later (op_later (op_later (op_later (op_here)))))))))))))))))))) (fun K hK => ?_) AllReadyH.nil
            go_simp
            refine (HADD.out w3 ((Frm.refl _ W).drew.trans HF3.out)).mono ?_
            rintro e w4 ⟨rfl, st⟩
            have HST := Lib.hid st
            have HFA : Hid (Frm (fun k => k = b ∨ (Value.slice (some ⟨bl, ol, none⟩) len c1).ownBlock = some k) w3 w4) := Lib.hid (by obtain ⟨_, _, h, _⟩ := st; exact h)
            clear st
            refine hK.out _ _ (KEEP.out _ ((((Frm.refl (fun k => k = b ∨ (Value.slice (some ⟨bl, ol, none⟩) len c1).ownBlock = some k) W).drew).trans (Fresh.frm HF3.out)).trans HFA.out)) (fun hHeld => ?_)
            clear hK K
            try simp only [Act.put, List.setIfInBounds_toArray, List.set_cons_zero, List.set_cons_succ]
            refine wpAnyH_take (i := 20) (v := ?_) (op_later (op_later (op_later (op_later (op_later (op_later (op_later (op_later (op_later (op_later (op_later (op_later (op_later (op_later (op_later (op_later (op_later (op_later (op_later (op_later (op_here))))))))))))))))))))) (by kernel_rfl) (by kernel_rfl) (by kernel_rfl) (fun _ _ _ h => h) (Or.inl ⟨by rfl, ?_⟩) (by assumption) ?_
            rotate_left 1
            (intro w hSw; (try dsimp only at hSw); go_simp; try with_reducible rfl)
            try simp only [Act.put, List.setIfInBounds_toArray, List.set_cons_zero, List.set_cons_succ]
            refine wpAnyH_take (i := 21) (v := ?_) (op_later (op_later (op_later (op_later (op_later (op_later (op_later (op_later (op_later (op_later (op_later (op_later (op_later (op_later (op_later (op_later (op_later (op_later (op_later (op_later (op_later (op_here)))))))))))))))))))))) (by kernel_rfl) (by kernel_rfl) (by kernel_rfl) (fun _ _ _ h => h) (Or.inl ⟨by rfl, ?_⟩) (by assumption) ?_
            rotate_left 1
            (intro w hSw; (try dsimp only at hSw); go_simp; try with_reducible rfl)
            try simp only [Act.put, List.setIfInBounds_toArray, List.set_cons_zero, List.set_cons_succ]
            refine wpAnyH_done (by kernel_rfl) ?_ _
            all_goals (
              obtain ⟨v', hv'⟩ := HFRE.out _ w4 ((Frm.refl _ W).drew.trans HF3.out) HST.out
              have HVN := Lib.hid hv'
              have HNX : Hid (decP bs = finP (pdec (n - (i + 1)) (add ⟨(x1 : Int), (x2 : Int), (x3 : Int), (x4 : Int), x5f⟩ l).2 s5)) := Lib.hid (by rw [hki, ← fin_on H5.out HBE.out HCC.out.symm, HFIN.out])
              clear hv'
              go_wp2_with fail
              go_roundw
              case rel => exact ⟨i + 1, v', _, s5, by omega, by go_num, HVN.out, HNX.out⟩
              case measure => simp [intOf]; omega)
          · have hcb : (cc == 0) = false := by rw [beq_eq_false_iff_ne]; exact hcz
            have hcb2 : (cc != 0) = true := by rw [bne_iff_ne]; exact hcz
            refine wp_region_held_drew (S := fun w' => w'.cell? ⟨bx, 0, none⟩ = some (.int .i64 (x1 : Int)) ∧ w'.cell? ⟨bx, 1, none⟩ = some (.int .i64 (x2 : Int)) ∧ w'.cell? ⟨bx, 2, none⟩ = some (.int .i64 (x3 : Int)) ∧ w'.cell? ⟨bx, 3, none⟩ = some (.int .i64 (x4 : Int)) ∧ w'.cell? ⟨bx, 4, none⟩ = some (.float .f64 x5f)) (by kernel_rfl) (KEEP.out _ ((Frm.refl (fun k => k = b ∨ (Value.slice (some ⟨bl, ol, none⟩) len c1).ownBlock = some k) W).drew)) (fun hHeld => ?_)
            refine wpAnyH_take (i := 0) (v := ?_) (op_here) (by kernel_rfl) (by kernel_rfl) (by kernel_rfl) (fun _ _ _ h => h) (Or.inl ⟨by rfl, ?_⟩) (by assumption) ?_
            rotate_left 1
            (intro w hSw; (try dsimp only at hSw); go_simp; try with_reducible rfl)
            try simp only [Act.put, List.setIfInBounds_toArray, List.set_cons_zero, List.set_cons_succ]
            refine wpAnyH_take (i := 1) (v := ?_) (op_later (op_here)) (by kernel_rfl) (by kernel_rfl) (by kernel_rfl) (fun _ _ _ h => h) (Or.inl ⟨by rfl, ?_⟩) (by assumption) ?_
            rotate_left 1
            (intro w hSw; (try dsimp only at hSw); go_simp; try with_reducible rfl)
            try simp only [Act.put, List.setIfInBounds_toArray, List.set_cons_zero, List.set_cons_succ]
            refine wpAnyH_take (i := 2) (v := ?_) (op_later (op_later (op_here))) (by kernel_rfl) (by kernel_rfl) (by kernel_rfl) (fun _ _ _ h => h) (Or.inl ⟨by rfl, ?_⟩) (by assumption) ?_
            rotate_left 1
            (intro w hSw; (try dsimp only at hSw); go_simp; try with_reducible rfl)
            try simp only [Act.put, List.setIfInBounds_toArray, List.set_cons_zero, List.set_cons_succ]
            refine wpAnyH_take (i := 3) (v := ?_) (op_later (op_later (op_later (op_here)))) (by kernel_rfl) (by kernel_rfl) (by kernel_rfl) (fun _ _ _ h => h) (Or.inl ⟨by rfl, ?_⟩) (by assumption) ?_
            rotate_left 1
            (intro w hSw; (try dsimp only at hSw); go_simp; try with_reducible rfl)
            try simp only [Act.put, List.setIfInBounds_toArray, List.set_cons_zero, List.set_cons_succ]
            refine wpAnyH_take (i := 4) (v := ?_) (op_later (op_later (op_later (op_later (op_here))))) (by kernel_rfl) (by kernel_rfl) (by kernel_rfl) (fun _ _ _ h => h) (Or.inl ⟨by rfl, ?_⟩) (by assumption) ?_
            rotate_left 1
            (intro w hSw; (try dsimp only at hSw); go_simp; try with_reducible rfl)
            try simp only [Act.put, List.setIfInBounds_toArray, List.set_cons_zero, List.set_cons_succ]
            refine wpAnyH_take (i := 5) (v := ?_) (op_later (op_later (op_later (op_later (op_later (op_here)))))) (by kernel_rfl) (by kernel_rfl) (by kernel_rfl) (fun _ _ _ h => h) (Or.inl ⟨by rfl, ?_⟩) (by assumption) ?_
            rotate_left 1
            (intro w hSw; (try dsimp only at hSw); go_simp; try with_reducible rfl)
            try simp only [Act.put, List.setIfInBounds_toArray, List.set_cons_zero, List.set_cons_succ]
            refine wpAnyH_take (i := 7) (v := ?_) (op_later (op_later (op_later (op_later (op_later (op_later (op_later (op_here)))))))) (by kernel_rfl) (by kernel_rfl) (by kernel_rfl) (fun _ _ _ h => h) (Or.inl ⟨by rfl, ?_⟩) (by assumption) ?_
            rotate_left 1
            (intro w hSw; (try dsimp only at hSw); go_simp; try with_reducible rfl)
            try simp only [Act.put, List.setIfInBounds_toArray, List.set_cons_zero, List.set_cons_succ]
            refine wpAnyH_take (i := 8) (v := ?_) (op_later (op_later (op_later (op_later (op_later (op_later (op_later (op_later (op_here))))))))) (by kernel_rfl) (by kernel_rfl) (by kernel_rfl) (fun _ _ _ h => h) (Or.inl ⟨by rfl, ?_⟩) (by assumption) ?_
            rotate_left 1
            (intro w hSw; (try dsimp only at hSw); go_simp; try with_reducible rfl)
            try simp only [Act.put, List.setIfInBounds_toArray, List.set_cons_zero, List.set_cons_succ]
            refine wpAnyH_take (i := 11) (v := ?_) (op_later (op_later (op_later (op_later (op_later (op_later (op_later (op_later (op_later (op_later (op_later (op_here)))))))))))) (by kernel_rfl) (by kernel_rfl) (by kernel_rfl) (fun _ _ _ h => h) (Or.inl ⟨by rfl, ?_⟩) (by assumption) ?_
            rotate_left 1
            (intro w hSw; (try dsimp only at hSw); go_simp; try with_reducible rfl)
            try simp only [Act.put, List.setIfInBounds_toArray, List.set_cons_zero, List.set_cons_succ]
            refine wpAnyH_take (i := 12) (v := ?_) (op_later (op_later (op_later (op_later (op_later (op_later (op_later (op_later (op_later (op_later (op_later (op_later (op_here))))))))))))) (by kernel_rfl) (by kernel_rfl) (by kernel_rfl) (fun _ _ _ h => h) (Or.inl ⟨by rfl, ?_⟩) (by assumption) ?_
            rotate_left 1
            (intro w hSw; (try dsimp only at hSw); go_simp; try with_reducible rfl)
            try simp only [Act.put, List.setIfInBounds_toArray, List.set_cons_zero, List.set_cons_succ]
            refine wpAnyH_ready (rs := [6]) (by kernel_rfl) (by simp) ?_
            refine AllReadyH.cons (op_later (op_later (op_later (op_later (op_later (op_later (op_here))))))) (fun K hK => ?_) AllReadyH.nil
            go_simp
            refine hK.out _ _ (KEEP.out _ ((Frm.refl (fun k => k = b ∨ (Value.slice (some ⟨bl, ol, none⟩) len c1).ownBlock = some k) W).drew)) (fun hHeld => ?_)
            clear hK K
            try simp only [Act.put, List.setIfInBounds_toArray, List.set_cons_zero, List.set_cons_succ]
            refine wpAnyH_take (i := 9) (v := ?_) (op_later (op_later (op_later (op_later (op_later (op_later (op_later (op_later (op_later (op_here)))))))))) (by kernel_rfl) (by kernel_rfl) (by kernel_rfl) (fun _ _ _ h => h) (Or.inl ⟨by rfl, ?_⟩) (by assumption) ?_
            rotate_left 1
            (intro w hSw; (try dsimp only at hSw); go_simp; try with_reducible rfl)
            try simp only [Act.put, List.setIfInBounds_toArray, List.set_cons_zero, List.set_cons_succ]
            refine wpAnyH_ready (rs := [10]) (by kernel_rfl) (by simp) ?_
            refine AllReadyH.cons (op_later (op_later (op_later (op_later (op_later (op_later (op_later (op_later (op_later (op_later (op_here))))))))))) (fun K hK => ?_) AllReadyH.nil
            go_simp
            refine hK.out _ _ (KEEP.out _ ((Frm.refl (fun k => k = b ∨ (Value.slice (some ⟨bl, ol, none⟩) len c1).ownBlock = some k) W).drew)) (fun hHeld => ?_)
            clear hK K
            try simp only [Act.put, List.setIfInBounds_toArray, List.set_cons_zero, List.set_cons_succ]
            refine wpAnyH_ready (rs := [13]) (by kernel_rfl) (by simp) ?_
            refine AllReadyH.cons (op_later (op_later (op_later (op_later (op_later (op_later (op_later (op_later (op_later (op_later (op_later (op_later (op_later (op_here)))))))))))))) (fun K hK => ?_) AllReadyH.nil
            go_simp
            refine (HOR.out _).mono ?_
            rintro e w3 ⟨rfl, f3⟩
            have HF3 : Hid (Fresh W.drew w3) := Lib.hid f3
            clear f3
            refine hK.out _ _ (KEEP.out _ (((Frm.refl (fun k => k = b ∨ (Value.slice (some ⟨bl, ol, none⟩) len c1).ownBlock = some k) W).drew).trans (Fresh.frm HF3.out))) (fun hHeld => ?_)
            clear hK K
            try simp only [Act.put, List.setIfInBounds_toArray, List.set_cons_zero, List.set_cons_succ]
            refine wpAnyH_take (i := 14) (v := ?_) (op_later (op_later (op_later (op_later (op_later (op_later (op_later (op_later (op_later (op_later (op_later (op_later (op_later (op_later (op_here))))))))))))))) (by kernel_rfl) (by kernel_rfl) (by kernel_rfl) (fun _ _ _ h => h) (Or.inl ⟨by rfl, ?_⟩) (by assumption) ?_
            rotate_left 1
            (intro w hSw; (try dsimp only at hSw); go_simp; try with_reducible rfl)
            try simp only [Act.put, List.setIfInBounds_toArray, List.set_cons_zero, List.set_cons_succ]
            refine wpAnyH_take (i := 15) (v := ?_) (op_later (op_later (op_later (op_later (op_later (op_later (op_later (op_later (op_later (op_later (op_later (op_later (op_later (op_later (op_later (op_here)))))))))))))))) (by kernel_rfl) (by kernel_rfl) (by kernel_rfl) (fun _ _ _ h => h) (Or.inl ⟨by rfl, ?_⟩) (by assumption) ?_
            rotate_left 1
            (intro w hSw; (try dsimp only at hSw); go_simp; try with_reducible rfl)
            try simp only [Act.put, List.setIfInBounds_toArray, List.set_cons_zero, List.set_cons_succ]
            refine wpAnyH_take (i := 16) (v := ?_) (op_later (op_later (op_later (op_later (op_later (op_later (op_later (op_later (op_later (op_later (op_later (op_later (op_later (op_later (op_later (op_later (op_here))))))))))))))))) (by kernel_rfl) (by kernel_rfl) (by kernel_rfl) (fun _ _ _ h => h) (Or.inl ⟨by rfl, ?_⟩) (by assumption) ?_
            rotate_left 1
            (intro w hSw; (try dsimp only at hSw); go_simp; try with_reducible rfl)
            try simp only [Act.put, List.setIfInBounds_toArray, List.set_cons_zero, List.set_cons_succ]
            refine wpAnyH_take (i := 17) (v := ?_) (op_later (op_later (op_later (op_later (op_later (op_later (op_later (op_later (op_later (op_later (op_later (op_later (op_later (op_later (op_later (op_later (op_later (op_here)))))))))))))))))) (by kernel_rfl) (by kernel_rfl) (by kernel_rfl) (fun _ _ _ h => h) (Or.inl ⟨by rfl, ?_⟩) (by assumption) ?_
            rotate_left 1
            (intro w hSw; (try dsimp only at hSw); go_simp; try with_reducible rfl)
            try simp only [Act.put, List.setIfInBounds_toArray, List.set_cons_zero, List.set_cons_succ]
            refine wpAnyH_take (i := 18) (v := ?_) (op_later (op_later (op_later (op_later (op_later (op_later (op_later (op_later (op_later (op_later (op_later (op_later (op_later (op_later (op_later (op_later (op_later (op_later (op_here))))))))))))))))))) (by kernel_rfl) (by kernel_rfl) (by kernel_rfl) (fun _ _ _ h => h) (Or.inl ⟨by rfl, ?_⟩) (by assumption) ?_
            rotate_left 1
            (intro w hSw; (try dsimp only at hSw); go_simp; try with_reducible rfl)
            try simp only [Act.put, List.setIfInBounds_toArray, List.set_cons_zero, List.set_cons_succ]
            refine wpAnyH_ready (rs := [19]) (by kernel_rfl) (by simp) ?_
            refine AllReadyH.cons (op_later (op_later (op_later (op_later (op_later (op_later (op_later (op_later (op_later (op_later (op_later (op_later (op_later (op_later (op_later (op_later (op_later (op_later (op_later (op_here)))))))))))))))))))) (fun K hK => ?_) AllReadyH.nil
            go_simp
            refine (HADD.out w3 ((Frm.refl _ W).drew.trans HF3.out)).mono ?_
            rintro e w4 ⟨rfl, st⟩
            have HST := Lib.hid st
            have HFA : Hid (Frm (fun k => k = b ∨ (Value.slice (some ⟨bl, ol, none⟩) len c1).ownBlock = some k) w3 w4) := Lib.hid (by obtain ⟨_, _, h, _⟩ := st; exact h)
            clear st
            refine hK.out _ _ (KEEP.out _ ((((Frm.refl (fun k => k = b ∨ (Value.slice (some ⟨bl, ol, none⟩) len c1).ownBlock = some k) W).drew).trans (Fresh.frm HF3.out)).trans HFA.out)) (fun hHeld => ?_)
            clear hK K
            try simp only [Act.put, List.setIfInBounds_toArray, List.set_cons_zero, List.set_cons_succ]
            refine wpAnyH_take (i := 20) (v := ?_) (op_later (op_later (op_later (op_later (op_later (op_later (op_later (op_later (op_later (op_later (op_later (op_later (op_later (op_later (op_later (op_later (op_later (op_later (op_later (op_later (op_here))))))))))))))))))))) (by kernel_rfl) (by kernel_rfl) (by kernel_rfl) (fun _ _ _ h => h) (Or.inl ⟨by rfl, ?_⟩) (by assumption) ?_
            rotate_left 1
            (intro w hSw; (try dsimp only at hSw); go_simp; try with_reducible rfl)
            try simp only [Act.put, List.setIfInBounds_toArray, List.set_cons_zero, List.set_cons_succ]
            refine wpAnyH_take (i := 21) (v := ?_) (op_later (op_later (op_later (op_later (op_later (op_later (op_later (op_later (op_later (op_later (op_later (op_later (op_later (op_later (op_later (op_later (op_later (op_later (op_later (op_later (op_later (op_here)))))))))))))))))))))) (by kernel_rfl) (by kernel_rfl) (by kernel_rfl) (fun _ _ _ h => h) (Or.inl ⟨by rfl, ?_⟩) (by assumption) ?_
            rotate_left 1
            (intro w hSw; (try dsimp only at hSw); go_simp; try with_reducible rfl)
            try simp only [Act.put, List.setIfInBounds_toArray, List.set_cons_zero, List.set_cons_succ]
            refine wpAnyH_done (by kernel_rfl) ?_ _
            all_goals (
              obtain ⟨v', hv'⟩ := HFRE.out _ w4 ((Frm.refl _ W).drew.trans HF3.out) HST.out
              have HVN := Lib.hid hv'.frm
              have HNO : Hid (decP bs = none) := Lib.hid (by rw [HFIN.out]; exact fin_no H5.out (.inr (by rw [← HCC.out]; exact hcz)))
              clear hv'
              go_wp2_with fail
              exact bodyPost_ret (v := .tuple #[.pointer none, .int .i64 6]) (by simp [results, Try.results20, go_sem]) rfl (out_no HNO.out HVN.out))
    · obtain rfl : i = n := by omega
      rw [Nat.sub_self] at HFIN
      have HE : Hid (decP bs = if wholeB s.1 s.2 = true then some l else none) := Lib.hid (by
        rw [HFIN.out, pdec]
        unfold finP
        dsimp only
        rw [show wholeS s = wholeB s.1 s.2 from by unfold wholeS wholeB; cases s.1 <;> simp])
      have HWH := Lib.hid (whole_any wr g g s.1 s.2 hv.rdr)
      have hcp := hv.pcell
      generalize wholeB s.1 s.2 = wb at HE HWH
      clear hv
      cases wb with
      | true =>
        go_wp2_with fail
        refine HWH.out.mono ?_
        rintro e w5 ⟨rfl, hw5⟩
        rw [← hw5]
        clear hw5 w5
        go_wp2_with fail
        refine bodyPost_ret (v := .tuple #[.pointer (some ⟨b, 0, none⟩), .int .i64 0]) (by simp [results, Try.results20, go_sem]) rfl ?_
        rw [show decP bs = some l from by rw [HE.out]; simp]
        exact ⟨b, v, rfl, HV.out.q.less (by have := HV.out.low; omega), HV.out.frm⟩
      | false =>
        go_wp2_with fail
        refine HWH.out.mono ?_
        rintro e w5 ⟨rfl, hw5⟩
        rw [← hw5]
        clear hw5 w5
        go_wp2_with fail
        refine bodyPost_ret (v := .tuple #[.pointer none, .int .i64 6]) (by simp [results, Try.results20, go_sem]) rfl ?_
        rw [show decP bs = none from by rw [HE.out]; simp]
        exact ⟨rfl, HV.out.frm⟩
end Go.Proofs.Ythofodjklogfgaa

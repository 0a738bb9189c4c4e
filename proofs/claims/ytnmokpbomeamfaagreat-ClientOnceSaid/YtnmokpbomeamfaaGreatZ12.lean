/- Proved here, for the statement ClientOnceSaid: laws that its walk leans on. It holds with no condition. (Put together and shortened by a program out of many texts: Read7, RefRead2, RefRead4, Dn1, On42, On58.) -/
import Derived.Test.YtnmokpbomeamfaaGreatZ11
set_option linter.unusedVariables false
set_option maxRecDepth 100000
set_option maxHeartbeats 64000000
namespace Go.Proofs.YtnmokpbomeamfaaGreat
section
open Go.RowKit ReadM
theorem u64_small {n : Nat} (h : (n : Int) ≤ 9223372036854775807) : IntKind.u64.wrap (n : Int) = (n : Int) := by rw [IntKind.wrap_u64]; omega
def Boxed (w : World) (L g : Nat) (t : List UInt8) : Prop := ∃ v, Blk w g 39 #[v] ∧ Sl w L 5 1 v t.length (t.map bv)
set_option maxRecDepth 100000 in
theorem one_text (W : World) (B g1 g2 : Nat) (bs : List UInt8) (most : Int) (hmx : most ≤ 9223372036854775807) (hbl : bs.length ≤ 140737488355328) (h1 : Blk W g1 3 #[.int .i64 most]) (h2 : Blk W g2 39 #[.slice none 0 0]) (hB2 : B ≤ g2) (hBW : B ≤ W.heap.size) :
 One 93 #[.pointer (some ⟨g1, 0, none⟩), .pointer (some ⟨g2, 0, none⟩)] W B g2 bs ((qH most bs).map (·.2)) (fun w' => ∀ x, qH most bs = some x → Boxed w' W.heap.size g2 x.1) where
 enter := fun args w => rd_enter_any (P := Tryz.prog) (f := 93) Tryz.func93 (by kernel_rfl) rfl args w
 step := fun w g A cap F hg hl => by
  have hg1 : g1 ≠ g := by have := h1.lt; omega
  have hg2 : g2 ≠ g := by have := h2.lt; omega
  have HFW := zh F
  have HB1 := zh (fresh_blk h1 F)
  have HB2 := zh (fresh_blk h2 F)
  have HL := zh hl
  clear hl h1 h2 F
  show Calls _ _ #[_, _, _] _ _
  go_in
  go_wp2_with fail
  refine (size_any w B g A cap bs HL.out).mono ?_
  intro e w1 hsz
  cases hd : dec bs with
  | none =>
   unfold SizeWay at hsz
   rw [hd] at hsz
   obtain ⟨rfl, F1⟩ := hsz
   have HR := zh (show qH most bs = none from by rw [qH, hd])
   clear hd
   have HF1 := zh F1
   clear F1
   go_wp2_with fail
   refine ⟨rfl, ?_⟩
   rw [HR.out]
   exact ⟨rfl, HF1.out⟩
  | some x =>
   obtain ⟨n, m, rest⟩ := x
   unfold SizeWay at hsz
   rw [hd] at hsz
   obtain ⟨A1, cap1, rfl, hl1, F1⟩ := hsz
   have hrl := dec_len hd
   have HD := zh hd
   have HL1 := zh hl1
   have HF1 := zh F1
   have c1 : w1.cell? ⟨g1, 0, none⟩ = some (.int .i64 most) := (HB1.out.frm F1 hg1).cell 0
   have c0 : w1.cell? ⟨g, 0, none⟩ = some (.slice A1 rest.length cap1) := hl1.box.cell 0
   have HB2' := zh (HB2.out.frm F1 hg2)
   have hr2 : rest.length ≤ 140737488355328 := by omega
   have hcap1 := hl1.le
   have hcap2 := hl1.most
   unfold maxLen at hcap2
   clear hd hl1 F1
   cases m with
   | true =>
    have HR := zh (show qH most bs = none from by rw [qH, HD.out])
    go_wp2_with fail
    refine (must_no _).mono ?_
    rintro e w2 ⟨rfl, rfl⟩
    go_wp2_with fail
    refine ⟨rfl, ?_⟩
    rw [HR.out]
    exact ⟨rfl, HF1.out⟩
   | false =>
    by_cases q1 : 0 ≤ most
    ·obtain ⟨mm, rfl⟩ := zA q1
     have hcv : IntKind.u64.wrap (mm : Int) = (mm : Int) := u64_small hmx
     have hcl : IntKind.u64.wrap (rest.length : Int) = (rest.length : Int) := u64_small (by omega)
     by_cases q2 : n ≤ mm
     ·by_cases q3 : n ≤ rest.length
      ·have HR := zh (show qH (mm : Int) bs = some (rest.take n, rest.drop n) from by rw [qH, HD.out]; exact zl ⟨q1, by omega, q3⟩)
       have d2 : decide (n ≤ mm) = true := by simpa using q2
       have d3 : decide (n ≤ rest.length) = true := by simpa using q3
       have hn63 : (n : Int) ≤ 9223372036854775807 := by omega
       have hn00 : (0 : Int) ≤ (n : Int) := by omega
       go_wp2_with fail
       refine (must_yes _).mono ?_
       rintro e w2 ⟨rfl, rfl⟩
       go_wp2_with fail
       refine (take_yes w2 B g A1 cap1 rest n HL1.out q3).mono ?_
       rintro e w3 ⟨A3, rfl, h3, r3, F3⟩
       have hBw3 : B ≤ w3.heap.size := by have := h3.box.lt; have := h3.hB; omega
       have htl : (rest.take n).length = n := by rw [zw]; omega
       have HC : Calls Tryz.prog 18 #[.slice A1 n cap1] w3 fun e w' => ∃ v, e = .returned v ∧ Sl w' w3.heap.size 5 1 v (rest.take n).length ((rest.take n).map bv) ∧ Fresh w3 w' := by
        have := rd_clone_any w3 B A1 cap1 (rest.take n) r3 hBw3 (by omega) (by omega) (by unfold maxLen; omega)
        rwa [htl] at this ⊢
       have HCC := zh HC
       have H3 := zh h3
       have HF3 := zh F3
       have HB3 := zh (HB2'.out.frm F3 hg2)
       clear h3 r3 F3 HC htl c0 c1
       go_wp2_with fail
       refine HCC.out.mono ?_
       rintro e w4 ⟨v, rfl, hs4, F4⟩
       obtain ⟨A4, cap4, rfl, _⟩ := hs4.shape
       have hb4 := HB3.out.frm F4 (fun f => f)
       have k2 : w4.cell? ⟨g2, 0, none⟩ = some (.slice none 0 0) := hb4.cell 0
       have kz := hb4.frozen 0
       have HS4 := zh hs4
       have HF4 := zh F4
       have HB4 := zh hb4
       clear hs4 F4 hb4
       go_wp2_with fail
       go_end0
       have FC : Frm (fun k => k = g ∨ k = g2) w (w4.setCell ⟨g2, 0, none⟩ (.slice A4 n cap4)) :=
        (((HF1.out.trans HF3.out).mono (fun _ _ h => .inl h)).trans' HF4.out (fun _ _ h => h.elim)).setCell (p := ⟨g2, 0, none⟩) (fun _ => .inr rfl) _
       have F4S : Frm (fun k => k = g2) w3 (w4.setCell ⟨g2, 0, none⟩ (.slice A4 n cap4)) := (Fresh.frm (S := fun k => k = g2) HF4.out).setCell (p := ⟨g2, 0, none⟩) (fun _ => rfl) _
       have hsz : W.heap.size ≤ w3.heap.size := zp HFW.out.size (zp HF1.out.size HF3.out.size)
       have htl : (rest.take n).length = n := by rw [zw]; omega
       rw [HR.out]
       refine ⟨rfl, ⟨A3, _, H3.out.frm F4S (by show ¬ (g = g2); omega) (fun k hk e => by omega)⟩, ?_, FC⟩
       intro x hx
       cases hx
       refine ⟨.slice A4 n cap4, HB4.out.set 0 _, ?_⟩
       have hs5 := HS4.out.less hsz
       rw [htl] at hs5
       show Sl _ _ _ _ _ (rest.take n).length _
       rw [htl]
       exact hs5.frm ((za (fun k => k = g2) w4).setCell (p := ⟨g2, 0, none⟩) (fun _ => rfl) _) (fun k hk e => hs5.apart HB4.out (by decide) (by rw [hk, e]))
      ·have HR := zh (show qH (mm : Int) bs = none from by rw [qH, HD.out]; exact zk (fun h => q3 h.2.2))
       have d2 : decide (n ≤ mm) = true := by simpa using q2
       have d3 : decide (n ≤ rest.length) = false := by simpa using q3
       go_wp2_with fail
       refine (must_no _).mono ?_
       rintro e w2 ⟨rfl, rfl⟩
       go_wp2_with fail
       refine ⟨rfl, ?_⟩
       rw [HR.out]
       exact ⟨rfl, HF1.out⟩
     ·have HR := zh (show qH (mm : Int) bs = none from by rw [qH, HD.out]; exact zk (fun h => q2 (by have := h.2.1; omega)))
      have d2 : decide (n ≤ mm) = false := by simpa using q2
      go_wp2_with fail
      refine (must_no _).mono ?_
      rintro e w2 ⟨rfl, rfl⟩
      go_wp2_with fail
      refine ⟨rfl, ?_⟩
      rw [HR.out]
      exact ⟨rfl, HF1.out⟩
    ·have HR := zh (show qH most bs = none from by rw [qH, HD.out]; exact zk (fun h => q1 h.1))
     have d1 : decide (0 ≤ most) = false := by simpa using q1
     go_wp2_with fail
     refine (must_no _).mono ?_
     rintro e w2 ⟨rfl, rfl⟩
     go_wp2_with fail
     refine ⟨rfl, ?_⟩
     rw [HR.out]
     exact ⟨rfl, HF1.out⟩
def TextPost (w : World) (B gr : Nat) (bs : List UInt8) (res : Option (List UInt8 × List UInt8)) (e : Ending) (w' : World) : Prop :=
 ∃ v t, e = .returned v ∧ t = (match res with | some x => x.1 | none => []) ∧ Sl w' w.heap.size 5 1 v t.length (t.map bv) ∧ RdrAt w' B gr (match res with | some x => x.2 | none => bs) res.isNone ∧ Frm (fun k => k = gr) w w'
theorem readText_any (w : World) (B gr : Nat) (bs : List UInt8) (bad : Bool) (most : Int) (hmx : most ≤ 9223372036854775807) (hbl : bs.length ≤ 140737488355328) (h : RdrAt w B gr bs bad) :
 Calls Tryz.prog 75 #[.pointer (some ⟨gr, 0, none⟩), .int .i64 most] w fun e w' => TextPost w B gr bs (ifGood bad (qH most bs)) e w' := by
 have H := zh h
 have hlt : gr < w.heap.size := by obtain ⟨_, _, hb, _⟩ := h; exact hb.lt
 have hB : B ≤ gr := by obtain ⟨_, _, _, _, _, _, hB⟩ := h; exact hB
 clear h
 have hmf : ∀ (fn : Fn) (first cap : Array Value) (w : World), (Instr.makeFunc fn first cap).run Tryz.prog w = .ok (.func fn first cap) w := fun _ _ _ _ => rfl
 go_in
 go_wp2_with fail
 have F0 : Fresh w ((w.alloc (.cells #[.int .i64 most] 3)).alloc (.cells #[.slice none 0 0] 39)) := ((za _ w).alloc _).alloc _
 have b1 : Blk ((w.alloc (.cells #[.int .i64 most] 3)).alloc (.cells #[.slice none 0 0] 39)) w.heap.size 3 #[.int .i64 most] := (Blk.new w _ _).alloc _
 have b2 : Blk ((w.alloc (.cells #[.int .i64 most] 3)).alloc (.cells #[.slice none 0 0] 39)) (w.heap.size + 1) 39 #[.slice none 0 0] := by
  have := Blk.new (w.alloc (.cells #[.int .i64 most] 3)) 39 #[.slice none 0 0]
  simpa using this
 have hr := H.out.frm F0 (fun f => f) (fun _ _ f => f)
 cases bad with
 | true =>
  refine (read_bad 93 #[.pointer (some ⟨w.heap.size, 0, none⟩), .pointer (some ⟨w.heap.size + 1, 0, none⟩)] _ B gr (w.heap.size + 1) bs (fun _ => True) hr).mono ?_
  intro e w2 h2
  obtain ⟨rfl, h3, F3⟩ := readPost_none h2
  have c2 : w2.cell? ⟨w.heap.size + 1, 0, none⟩ = some (.slice none 0 0) := (b2.frm F3 (show ¬ (w.heap.size + 1 = gr) by omega)).cell 0
  have H3 := zh h3
  have HF3 := zh ((Fresh.frm (S := fun k => k = gr) F0).trans F3)
  clear h2 h3 F3 F0 b1 b2 hr
  go_wp2_with fail
  go_ret
  exact ⟨_, [], rfl, rfl, Sl.nil _ _ _ _, H3.out, HF3.out⟩
 | false =>
  have hone := one_text _ B w.heap.size (w.heap.size + 1) bs most hmx hbl b1 b2 (by omega) (by simp; omega)
  refine (read_good 93 #[.pointer (some ⟨w.heap.size, 0, none⟩), .pointer (some ⟨w.heap.size + 1, 0, none⟩)] _ B gr (w.heap.size + 1) bs _ _ hr b2.lt (by omega) (by omega) hone (fun w2 w3 hf hg x hx => by
   obtain ⟨v, hb, hs⟩ := hg x hx
   exact ⟨v, hb.frm hf (show ¬ (w.heap.size + 1 = gr) by omega), hs.frm hf (fun k hk e => by
    have := (hs.lt k hk).1
    simp at this
    omega)⟩)).mono ?_
  intro e w2 h2
  cases hres : qH most bs with
  | none =>
   rw [hres] at h2
   obtain ⟨rfl, h3, F3⟩ := readPost_none h2
   have c2 : w2.cell? ⟨w.heap.size + 1, 0, none⟩ = some (.slice none 0 0) := (b2.frm F3 (show ¬ (w.heap.size + 1 = gr) by omega)).cell 0
   have H3 := zh h3
   have HF3 := zh ((Fresh.frm (S := fun k => k = gr) F0).trans F3)
   have HRES := zh hres
   clear h2 h3 F3 F0 b1 b2 hr hone hres
   go_wp2_with fail
   go_ret
   rw [HRES.out]
   exact ⟨_, [], rfl, rfl, Sl.nil _ _ _ _, H3.out, HF3.out⟩
  | some x =>
   rw [hres] at h2
   obtain ⟨rfl, h3, hg, F3⟩ := readPost_some h2
   obtain ⟨v, hbv, hsv⟩ := hg x rfl
   obtain ⟨A5, cap5, rfl, _⟩ := hsv.shape
   have c2 : w2.cell? ⟨w.heap.size + 1, 0, none⟩ = some (.slice A5 x.1.length cap5) := hbv.cell 0
   have H3 := zh h3
   have HS5 := zh (hsv.less (show w.heap.size ≤ ((w.alloc (.cells #[.int .i64 most] 3)).alloc (.cells #[.slice none 0 0] 39)).heap.size by simp; omega))
   have HF3 := zh ((Fresh.frm (S := fun k => k = gr) F0).trans' F3 (fun i hi h => by omega))
   have HRES := zh hres
   clear h2 h3 F3 F0 b1 b2 hr hone hres hg hbv hsv
   go_wp2_with fail
   go_ret
   rw [HRES.out]
   exact ⟨_, x.1, rfl, rfl, HS5.out, H3.out, HF3.out⟩
def StepTo (w : World) (B g : Nat) (bs : List UInt8) (rest : Option (List UInt8)) (w' : World) : Prop :=
 ∃ at', at' ≤ bs.length ∧ RefAt w' B g bs at' rest.isNone ∧ (∀ x, rest = some x → x = bs.drop at') ∧ Frm (fun k => k = g) w w'
theorem RefAt.lt {w : World} {B g : Nat} {bs : List UInt8} {at_ : Nat} {amis : Bool} (h : RefAt w B g bs at_ amis) : g < w.heap.size := by
 obtain ⟨_, _, h, _⟩ := h; exact h.lt
theorem step_amis {w w1 : World} {B g : Nat} {bs : List UInt8} {at_ : Nat} {amis : Bool} (hat : at_ ≤ bs.length) (h : RefAt w1 B g bs at_ amis) (F : Frm (fun k => k = g) w w1) : StepTo w B g bs none (w1.setCell ⟨g, 2, none⟩ (.bool true)) := by
 have hlt := h.lt
 obtain ⟨A, cap, h1, h2, h3, h4, h5⟩ := h
 have FS : Frm (fun k => k = g) w1 (w1.setCell ⟨g, 2, none⟩ (.bool true)) := (za (fun k => k = g) w1).setCell (p := ⟨g, 2, none⟩) (fun _ => rfl) _
 exact ⟨at_, hat, ⟨A, cap, h1.set 2 (.bool true), h2.frm (by omega) FS (fun p _ hp e => by omega), h3, h4, h5⟩, fun x h => by simp at h, F.trans FS⟩
theorem step_on {w w1 : World} {B g : Nat} {bs : List UInt8} {at_ k : Nat} {rest : List UInt8} (hk : at_ + k ≤ bs.length) (hr : rest = bs.drop (at_ + k)) (h : RefAt w1 B g bs at_ false) (F : Frm (fun k => k = g) w w1) :
 StepTo w B g bs (some rest) (w1.setCell ⟨g, 1, none⟩ (.int .i64 ((at_ : Int) + (k : Int)))) := by
 have hlt := h.lt
 obtain ⟨A, cap, h1, h2, h3, h4, h5⟩ := h
 have FS : Frm (fun k => k = g) w1 (w1.setCell ⟨g, 1, none⟩ (.int .i64 ((at_ : Int) + (k : Int)))) := (za (fun k => k = g) w1).setCell (p := ⟨g, 1, none⟩) (fun _ => rfl) _
 refine ⟨at_ + k, hk, ⟨A, cap, ?_, h2.frm (by omega) FS (fun p _ hp e => by omega), h3, h4, h5⟩, fun x h => by injection h with h; rw [← h, hr], F.trans FS⟩
 have := h1.set 1 (.int .i64 ((at_ : Int) + (k : Int)))
 simpa using this
def RefNum (w : World) (B g : Nat) (bs : List UInt8) (res : Option (Nat × List UInt8)) (e : Ending) (w' : World) : Prop :=
 e = .returned (uv (match res with | some x => x.1 | none => 0)) ∧ StepTo w B g bs (res.map (·.2)) w'
theorem num_rdec (amis : Bool) (most : Nat) (bs : List UInt8) (at_ : Nat) : ifGood amis (qG most (bs.drop at_)) = match rdec amis bs at_ with | some (n, false, rest) => if n ≤ most then some (n, rest) else none | _ => none := by cases amis <;> rfl
theorem rdec_good {amis : Bool} {bs : List UInt8} {at_ : Nat} {x : Nat × Bool × List UInt8} (h : rdec amis bs at_ = some x) : amis = false := by cases amis; rfl; cases h
theorem rNumber_any (w : World) (B g : Nat) (bs : List UInt8) (at_ : Nat) (amis : Bool) (most : Nat) (hat : at_ ≤ bs.length) (hbl : bs.length ≤ 140737488355328) (h : RefAt w B g bs at_ amis) :
 Calls Tryz.prog 39 #[.pointer (some ⟨g, 0, none⟩), .int .u64 (most : Int)] w fun e w' => RefNum w B g bs (ifGood amis (qG most (bs.drop at_))) e w' := by
 have H := zh h
 clear h
 go_in
 go_wp2_with fail
 refine (next_any w B g bs at_ amis hat hbl H.out).mono ?_
 intro e w1 hn
 obtain ⟨n, m, k, q, rfl, rfl, hr⟩ := hn
 have HF1 : Hid (Frm (fun k => k = g) w (w.drewN q)) := zh ((za _ w).drewN q)
 have h1 : RefAt (w.drewN q) B g bs at_ amis := H.out.frm ((za (fun _ => False) w).drewN q) (fun f => f) (fun _ _ f => f)
 generalize w.drewN q = w1 at HF1 h1
 have H1 := zh h1
 have hc1 : w1.cell? ⟨g, 1, none⟩ = some (.int .i64 (at_ : Int)) := by obtain ⟨_, _, hb, _⟩ := h1; exact hb.cell 1
 have hc2 : w1.cell? ⟨g, 2, none⟩ = some (.bool amis) := by obtain ⟨_, _, hb, _⟩ := h1; exact hb.cell 2
 have hz1 := (show ∃ A cap, Blk w1 g 100 #[.slice A bs.length cap, .int .i64 (at_ : Int), .bool amis] from by obtain ⟨A, cap, hb, _⟩ := h1; exact ⟨A, cap, hb⟩)
 obtain ⟨AA, cc, hzb⟩ := hz1
 have hf1 := hzb.frozen 1
 have hf2 := hzb.frozen 2
 clear h1 hzb
 rcases hr with ⟨hr, rfl, rfl, rfl⟩ | ⟨rest, hr, hk, hkl, hrest⟩
 ·have HR := zh hr
  clear hr
  go_wp2_with fail
  go_ret
  rw [num_rdec, HR.out]
  exact ⟨rfl, step_amis hat H1.out HF1.out⟩
 ·obtain rfl := rdec_good hr
  have e0 : ((k : Int) == 0) = false := by simp; omega
  have HR := zh hr
  have HRE := zh hrest
  clear hr hrest
  cases m with
  | true =>
   go_wp2_with fail
   go_ret
   rw [num_rdec, HR.out]
   exact ⟨rfl, step_amis hat H1.out HF1.out⟩
  | false =>
   by_cases q1 : n ≤ most
   ·have e1 : decide (most < n) = false := by simp; omega
    have hw1 : IntKind.i64.wrap ((at_ : Int) + (k : Int)) = (at_ : Int) + (k : Int) := zm _ (by omega)
    go_wp2_with fail
    go_ret
    rw [num_rdec, HR.out]
    simp only [zl q1]
    exact ⟨rfl, step_on hkl HRE.out H1.out HF1.out⟩
   ·have e1 : decide (most < n) = true := by simp; omega
    go_wp2_with fail
    go_ret
    rw [num_rdec, HR.out]
    simp only [zk q1]
    exact ⟨rfl, step_amis hat H1.out HF1.out⟩
def refWholeB (bs : List UInt8) (at_ : Nat) (amis : Bool) : Bool := !amis && decide (at_ = bs.length)
theorem rWhole_any (w : World) (B g : Nat) (bs : List UInt8) (at_ : Nat) (amis : Bool) (h : RefAt w B g bs at_ amis) :
 Calls Tryz.prog 41 #[.pointer (some ⟨g, 0, none⟩)] w fun e w' => e = .returned (.bool (refWholeB bs at_ amis)) ∧ ∃ n, w' = w.drewN n := by
 obtain ⟨A, cap, hb, _⟩ := h
 have hd0 : ∀ n, (w.drewN n).cell? ⟨g, 0, none⟩ = some (.slice A bs.length cap) := fun _ => hb.cell 0
 have hd1 : ∀ n, (w.drewN n).cell? ⟨g, 1, none⟩ = some (.int .i64 (at_ : Int)) := fun _ => hb.cell 1
 have hd2 : ∀ n, (w.drewN n).cell? ⟨g, 2, none⟩ = some (.bool amis) := fun _ => hb.cell 2
 clear hb
 cases amis with
 | true =>
  go_in
  go_wp2_with fail
  go_quiet (fail)
  go_wp2_with fail
  go_ret
  exact ⟨rfl, _, rfl⟩
 | false =>
  obtain ⟨b, hb⟩ : ∃ b, b = decide (at_ = bs.length) := ⟨_, rfl⟩
  have HB := zh hb
  have e1 : ((at_ : Int) == (bs.length : Int)) = b := by rw [hb]; cases h : decide (at_ = bs.length) <;> simp at h ⊢ <;> omega
  clear hb
  go_in
  go_wp2_with fail
  go_quiet (fail)
  go_wp2_with fail
  go_ret
  exact ⟨by rw [refWholeB, ← HB.out]; rfl, _, rfl⟩
theorem rd_step_append_sl {P : Program} {w : World} {ops : Array Oper} {o : Oper} {a : Act} {K : Act → World → Prop} {Q : Exit → Act → World → Prop} {E : Prop} (hgd : o.guard = none) (s x : Operand) (t : TypeId)
 (ho : o.op = .call { callee := .builtin .append, args := #[s, x], argTypes := #[t, t] })
 (B : Nat) (e : TypeId) (i : TypeInfo) (z : Value) (size bytes : Nat) (ht : P.underlying t = some (.slice e)) (hi : P.info? e = some i) (hz : i.zero = some z)
 (hsize : i.size = size) (hby : i.bytes = bytes) (hzs : z.cells.size = size) (hsz : 0 < size)
 (v : Value) (n : Nat) (xs : List Value) (hs : a.eval s = v) (hown : Sl w B e size v n xs)
 (B' : Nat) (A : Option Addr) (m c : Nat) (news : List Value) (hx : a.eval x = .slice A m c) (hl : news.length = m * size) (hr : Rd w B' A news) (h1 : ∀ u ∈ news, u.oneCell' = true)
 (h63 : n + m ≤ maxLen) (hbytes : (n + m) * bytes ≤ 140737488355328) (hB : B ≤ w.heap.size)
 (h : ∀ v' w', Sl w' B e size v' (n + m) (xs ++ news) → Frm (fun k => v.ownBlock = some k) w w' → (v'.ownBlock = v.ownBlock ∨ v'.ownBlock = some w.heap.size) → K (a.put o.dst v') w') :
 if Region.wanted o (yielded ops a.tmps) = true then Oper.wp P o a w K Q else E := by
 have hw : Region.wanted o (yielded ops a.tmps) = true := by simp [Region.wanted, hgd]
 rw [zl hw]
 obtain ⟨v', w', hrun, h2, h3, h4⟩ := run_append_sl (P := P) w B t o.type e i z size bytes ht hi hz hsize hby hzs hsz v n xs hown B' A m c news hl hr h1 h63 hbytes hB
 unfold Oper.wp execOp
 simp only [ho, resolve, invoke, builtin, Sem.run_bind, Sem.run_pure, Result.andThen_ok, List.map_toArray, zW, List.map_nil, hs, hx, hrun]
 exact h v' w' h2 h3 h4
def RefText (w : World) (B g : Nat) (bs : List UInt8) (res : Option (List UInt8 × List UInt8)) (e : Ending) (w' : World) : Prop :=
 ∃ v t, e = .returned v ∧ t = (match res with | some x => x.1 | none => []) ∧ Sl w' w.heap.size 5 1 v t.length (t.map bv) ∧ StepTo w B g bs (res.map (·.2)) w'
theorem text_rdec (amis : Bool) (most : Int) (bs : List UInt8) (at_ : Nat) : ifGood amis (qH most (bs.drop at_)) = match rdec amis bs at_ with | some (n, false, rest) => if 0 ≤ most ∧ (n : Int) ≤ most ∧ n ≤ rest.length then some (rest.take n, rest.drop n) else none | _ => none := by cases amis <;> rfl
theorem text_no {w w1 : World} {B g : Nat} {bs : List UInt8} {at_ : Nat} {amis : Bool} (hat : at_ ≤ bs.length) (h : RefAt w1 B g bs at_ amis) (F : Frm (fun k => k = g) w w1) (n : Nat) : RefText w B g bs none (.returned (.slice none 0 0)) ((w1.drewN n).setCell ⟨g, 2, none⟩ (.bool true)) :=
 ⟨_, [], rfl, rfl, Sl.nil _ _ _ _, step_amis hat (show RefAt (w1.drewN n) B g bs at_ amis from h.frm ((za (fun _ => False) w1).drewN n) (fun f => f) (fun _ _ f => f)) (F.drewN n)⟩
theorem step_fresh {w w1 w2 : World} {B g : Nat} {bs : List UInt8} {rest : Option (List UInt8)} (h : StepTo w B g bs rest w1) (F : Fresh w1 w2) : StepTo w B g bs rest w2 := by
 obtain ⟨at', h1, h2, h3, h4⟩ := h
 exact ⟨at', h1, h2.frm F (fun f => f) (fun _ _ f => f), h3, h4.trans' F (fun _ _ f => f.elim)⟩
theorem ref_on {w1 : World} {B g : Nat} {bs : List UInt8} {at_ k : Nat} (h : RefAt w1 B g bs at_ false) : RefAt (w1.setCell ⟨g, 1, none⟩ (.int .i64 ((at_ : Int) + (k : Int)))) B g bs (at_ + k) false := by
 have hlt := h.lt
 obtain ⟨A, cap, h1, h2, h3, h4, h5⟩ := h
 have FS : Frm (fun k => k = g) w1 (w1.setCell ⟨g, 1, none⟩ (.int .i64 ((at_ : Int) + (k : Int)))) := (za (fun k => k = g) w1).setCell (p := ⟨g, 1, none⟩) (fun _ => rfl) _
 refine ⟨A, cap, ?_, h2.frm (by omega) FS (fun p _ hp e => by omega), h3, h4, h5⟩
 have := h1.set 1 (.int .i64 ((at_ : Int) + (k : Int)))
 simpa using this
set_option maxRecDepth 100000 in
theorem rText_any (w : World) (B g : Nat) (bs : List UInt8) (at_ : Nat) (amis : Bool) (most : Int) (hmx : most ≤ 9223372036854775807) (hat : at_ ≤ bs.length) (hbl : bs.length ≤ 140737488355328) (h : RefAt w B g bs at_ amis) :
 Calls Tryz.prog 40 #[.pointer (some ⟨g, 0, none⟩), .int .i64 most] w fun e w' => RefText w B g bs (ifGood amis (qH most (bs.drop at_))) e w' := by
 have H := zh h
 clear h
 go_in
 go_wp2_with fail
 refine (next_any w B g bs at_ amis hat hbl H.out).mono ?_
 intro e w1 hn
 obtain ⟨n, m, k, q, rfl, rfl, hr⟩ := hn
 have HF1 : Hid (Frm (fun k => k = g) w (w.drewN q)) := zh ((za _ w).drewN q)
 have hsz : w.heap.size = (w.drewN q).heap.size := rfl
 have h1 : RefAt (w.drewN q) B g bs at_ amis := H.out.frm ((za (fun _ => False) w).drewN q) (fun f => f) (fun _ _ f => f)
 have HSZ := zh hsz
 clear hsz
 generalize w.drewN q = w1 at HF1 h1 HSZ
 have H1 := zh h1
 obtain ⟨A, cap, hb, hrd, hle, hmost, hBg⟩ := h1
 have hd0 : ∀ n, (w1.drewN n).cell? ⟨g, 0, none⟩ = some (.slice A bs.length cap) := fun _ => hb.cell 0
 have hd1 : ∀ n, (w1.drewN n).cell? ⟨g, 1, none⟩ = some (.int .i64 (at_ : Int)) := fun _ => hb.cell 1
 have hd2 : ∀ n, (w1.drewN n).cell? ⟨g, 2, none⟩ = some (.bool amis) := fun _ => hb.cell 2
 have hf1 : ∀ n, (w1.drewN n).frozen? ⟨g, 1, none⟩ = false := fun _ => hb.frozen 1
 have hf2 : ∀ n, (w1.drewN n).frozen? ⟨g, 2, none⟩ = false := fun _ => hb.frozen 2
 have HB := zh hb
 have HRD := zh hrd
 unfold maxLen at hmost
 clear hb hrd
 rcases hr with ⟨hr, rfl, rfl, rfl⟩ | ⟨rest, hr, hk, hkl, hrest⟩
 ·have HR := zh hr
  clear hr
  go_wp2_with fail
  go_quiet (fail)
  go_wp2_with fail
  go_ret
  rw [text_rdec, HR.out]
  exact text_no hat H1.out HF1.out _
 ·obtain rfl := rdec_good hr
  have e0 : ((k : Int) == 0) = false := by simp; omega
  have HR := zh hr
  have HRE := zh hrest
  have hrl : rest.length = bs.length - (at_ + k) := by rw [hrest, zN]
  clear hr hrest
  cases m with
  | true =>
   go_wp2_with fail
   go_quiet (fail)
   go_wp2_with fail
   go_ret
   rw [text_rdec, HR.out]
   exact text_no hat H1.out HF1.out _
  | false =>
   by_cases q1 : 0 ≤ most
   ·obtain ⟨mm, rfl⟩ := zA q1
    have d1 : decide ((mm : Int) < 0) = false := zb (by omega)
    have hcv : IntKind.u64.wrap (mm : Int) = (mm : Int) := u64_small hmx
    by_cases q2 : n ≤ mm
    ·have d2 : decide (mm < n) = false := by simp; omega
     have s1 : IntKind.i64.wrap ((bs.length : Int) - (at_ : Int)) = (bs.length : Int) - (at_ : Int) := zm _ (by omega)
     have s2 : IntKind.i64.wrap ((bs.length : Int) - (at_ : Int) - (k : Int)) = (rest.length : Int) := by rw [show (bs.length : Int) - (at_ : Int) - (k : Int) = (rest.length : Int) by omega]; exact zm _ (by omega)
     have s3 : IntKind.u64.wrap (rest.length : Int) = (rest.length : Int) := u64_small (by omega)
     by_cases q3 : n ≤ rest.length
     ·have d3 : decide (rest.length < n) = false := by simp; omega
      have HC := zh (show 0 ≤ (mm : Int) ∧ (n : Int) ≤ (mm : Int) ∧ n ≤ rest.length from ⟨q1, by omega, q3⟩)
      go_wp2_with fail
      go_quiet (fail)
      rename_i nq
      have s4 : IntKind.i64.wrap ((at_ : Int) + (k : Int)) = (at_ : Int) + (k : Int) := zm _ (by omega)
      have s5 : IntKind.i64.wrap (n : Int) = (n : Int) := zm _ (by omega)
      have s6 : IntKind.i64.wrap ((at_ : Int) + (k : Int) + (n : Int)) = (at_ : Int) + (k : Int) + (n : Int) := zm _ (by omega)
      clear s1 s2 s3 hcv d1 d2 d3
      go_wp2_with fail
      have hj : at_ + k + n ≤ bs.length := by omega
      have h2 : StepTo w B g bs (some (bs.drop (at_ + (k + n)))) ((w1.drewN nq).setCell ⟨g, 1, none⟩ (.int .i64 ((at_ : Int) + (k : Int) + (n : Int)))) ∧ RefAt ((w1.drewN nq).setCell ⟨g, 1, none⟩ (.int .i64 ((at_ : Int) + (k : Int) + (n : Int)))) B g bs (at_ + (k + n)) false ∧ w1.heap.size = ((w1.drewN nq).setCell ⟨g, 1, none⟩ (.int .i64 ((at_ : Int) + (k : Int) + (n : Int)))).heap.size := by
       rw [show (at_ : Int) + (k : Int) + (n : Int) = (at_ : Int) + ((k + n : Nat) : Int) by omega]
       have hh : RefAt (w1.drewN nq) B g bs at_ false := H1.out.frm ((za (fun _ => False) w1).drewN nq) (fun f => f) (fun _ _ f => f)
       exact ⟨step_on (by omega) rfl hh (HF1.out.drewN nq), ref_on hh, by simp⟩
      generalize (w1.drewN nq).setCell ⟨g, 1, none⟩ (.int .i64 ((at_ : Int) + (k : Int) + (n : Int))) = w2 at h2
      obtain ⟨hst, h3, hsz⟩ := h2
      have HST := zh hst
      have HSZ2 := zh (HSZ.out.trans hsz)
      clear hst hsz hd0 hd1 hd2 hf1 hf2
      have hg3 := h3.lt
      obtain ⟨A3, cap3, hb3, hr3, hle3, hm3, hB3⟩ := h3
      have HR3 := zh hr3
      have CELL : Hid (∀ w', Fresh w2 w' → w'.cell? ⟨g, 0, none⟩ = some (.slice A3 bs.length cap3) ∧ w'.cell? ⟨g, 1, none⟩ = some (.int .i64 ((at_ : Int) + (k : Int) + (n : Int)))) := zh (fun w' F => by
       have hb := hb3.frm F (fun f => f)
       refine ⟨hb.cell 0, ?_⟩
       rw [show (at_ : Int) + (k : Int) + (n : Int) = ((at_ + (k + n) : Nat) : Int) by omega]
       exact hb.cell 1)
      have c0 := (CELL.out w2 (za _ _)).1
      have c1 := (CELL.out w2 (za _ _)).2
      clear hb3 hr3
      have k1 : (0 : Int) ≤ (at_ : Int) + (k : Int) := by omega
      have k2 : ((at_ : Int) + (k : Int)).toNat = at_ + k := by omega
      have k3 : (0 : Int) ≤ (at_ : Int) + (k : Int) + (n : Int) := by omega
      have k4 : ((at_ : Int) + (k : Int) + (n : Int)).toNat = at_ + k + n := by omega
      have k5 : at_ + k + n ≤ cap3 := by omega
      have k6 : (at_ : Int) + (k : Int) ≤ (at_ : Int) + (k : Int) + (n : Int) := by omega
      have k7 : at_ + k + n - (at_ + k) = n := by omega
      have k8 : (at_ : Int) + (k : Int) + (n : Int) ≤ (cap3 : Int) := by unfold maxLen at hm3; omega
      obtain ⟨i0, hi, hz0, hz1, hz2⟩ := info_parts info_u8
      have S0 : Hid (Sl (w2.alloc (.cells #[] 5)) w2.heap.size 5 1 (.slice (some ⟨w2.heap.size, 0, none⟩) 0 0) 0 []) := zh (sl_new w2 _ [] _ (zf _) (by simp [maxLen]))
      have htl : ((rest.take n).map bv).length = n * 1 := by rw [zB, zw]; omega
      have R0 : Hid (Rd (w2.alloc (.cells #[] 5)) B (if cap3 = at_ + k then A3 else Option.map (fun x => x.add (at_ + k)) A3) ((rest.take n).map bv)) := zh (by
       have h := ((HR3.out.alloc (by omega) (.cells #[] 5)).rest (n := at_ + k) (cap := cap3) (by simpa using hle3)).take n
       rwa [← List.map_drop, ← List.map_take, ← HRE.out] at h)
      clear hrl
      go_region_held3 (fun w' => w'.cell? ⟨g, 0, none⟩ = some (.slice A3 bs.length cap3) ∧ w'.cell? ⟨g, 1, none⟩ = some (.int .i64 ((at_ : Int) + (k : Int) + (n : Int))))
       (first | exact CELL.out _ ((za _ w2).drew) | exact CELL.out _ (((za _ w2).alloc _).drew) | exact CELL.out _ (((za _ w2).drew).alloc _) | exact CELL.out _ HF4.out)
       (first
        | (refine rd_step_append_sl (by rfl) (.tmp 63) (.tmp 73) 39 (by rfl) w2.heap.size 5 i0 _ 1 1 Tryz.underlying39 hi hz0 hz1 hz2 rfl (by omega) (.slice (some ⟨w2.heap.size, 0, none⟩) 0 0) 0 [] (by rfl) S0.out B (if cap3 = at_ + k then A3 else Option.map (fun x => x.add (at_ + k)) A3) n (cap3 - (at_ + k)) ((rest.take n).map bv) (by rfl) htl R0.out (bv_one _) (by unfold maxLen; omega) (by omega) (by simp) ?_; intro v4 w4 hs4 hf4 ha4; have HF4 : Hid (Fresh w2 w4) := zh ((((za _ w2).alloc _).drew).trans' hf4 (fun i hi hk => by have := own_at hk; omega)); have HS4 := zh hs4; clear hs4 hf4 ha4))
      have hs4 := HS4.out
      rw [Nat.zero_add, List.nil_append] at hs4
      have HS5 := zh hs4
      clear hs4 c0 c1 R0
      generalize (if cap3 = at_ + k then A3 else Option.map (fun x => x.add (at_ + k)) A3) = A5
      go_wp2_with fail
      go_ret
      rw [text_rdec, HR.out]
      simp only [zl HC.out]
      refine ⟨v4, rest.take n, rfl, rfl, ?_, ?_⟩
      ·have h := HS5.out.less (Nat.le_of_eq HSZ2.out)
       rwa [show (rest.take n).length = n from by simpa using htl]
      ·rw [show (some (rest.take n, rest.drop n)).map (·.2) = some (bs.drop (at_ + (k + n))) from by rw [HRE.out, List.drop_drop]; simp [Nat.add_assoc]]
       exact step_fresh HST.out HF4.out
     ·have d3 : decide (rest.length < n) = true := by simp; omega
      have HC := zh (show ¬ (0 ≤ (mm : Int) ∧ (n : Int) ≤ (mm : Int) ∧ n ≤ rest.length) from fun h => q3 h.2.2)
      go_wp2_with fail
      go_quiet (fail)
      go_wp2_with fail
      go_ret
      rw [text_rdec, HR.out]
      simp only [zk HC.out]
      exact text_no hat H1.out HF1.out _
    ·have d2 : decide (mm < n) = true := by simp; omega
     have HC := zh (show ¬ (0 ≤ (mm : Int) ∧ (n : Int) ≤ (mm : Int) ∧ n ≤ rest.length) from fun h => q2 (by have := h.2.1; omega))
     go_wp2_with fail
     go_quiet (fail)
     go_wp2_with fail
     go_ret
     rw [text_rdec, HR.out]
     simp only [zk HC.out]
     exact text_no hat H1.out HF1.out _
   ·have d1 : decide (most < 0) = true := by simp; omega
    have HC := zh (show ¬ (0 ≤ most ∧ (n : Int) ≤ most ∧ n ≤ rest.length) from fun h => q1 h.1)
    go_wp2_with fail
    go_quiet (fail)
    go_wp2_with fail
    go_ret
    rw [text_rdec, HR.out]
    simp only [zk HC.out]
    exact text_no hat H1.out HF1.out _
abbrev RS : Type := List UInt8 × Bool
def rd1 {α : Type} (z : α) (f : List UInt8 → Option (α × List UInt8)) (s : RS) : α × RS :=
 if s.2 = true then (z, s) else match f s.1 with
  | some x => (x.1, (x.2, false))
  | none => (z, (s.1, true))
def rdn (most : Nat) (s : RS) : Nat × RS := rd1 0 (qG most) s
def rdt (most : Int) (s : RS) : List UInt8 × RS := rd1 [] (qH most) s
def wholeS (s : RS) : Bool := !s.2 && s.1.isEmpty
theorem rd1_bad {α : Type} (z : α) (f : List UInt8 → Option (α × List UInt8)) (s : RS) : (ifGood s.2 (f s.1)).isNone = (rd1 z f s).2.2 := by
 obtain ⟨bs, bad⟩ := s
 cases bad with
 | true => rfl
 | false =>
  unfold rd1 ifGood
  dsimp only
  cases f bs <;> rfl
theorem numRes_some {most : Nat} {bs : List UInt8} {x : Nat × List UInt8} (h : qG most bs = some x) : x.1 ≤ most ∧ x.2.length ≤ bs.length := by
 unfold qG at h
 split at h
 ·rename_i hd
  split at h
  ·injection h with h
   subst h
   rename_i hm
   exact ⟨hm, jA (dec_len hd)⟩
  ·cases h
 ·cases h
theorem textRes_some {most : Int} {bs : List UInt8} {x : List UInt8 × List UInt8} (h : qH most bs = some x) : (x.1.length : Int) ≤ most ∧ x.2.length ≤ bs.length ∧ x.1.length ≤ bs.length := by
 unfold qH at h
 split at h
 ·rename_i hd
  split at h
  ·injection h with h
   subst h
   rename_i hm
   have := dec_len hd
   refine ⟨?_, ?_, ?_⟩
   ·rw [zw]; omega
   ·rw [zN]; omega
   ·rw [zw]; omega
  ·cases h
 ·cases h
theorem rd1_len {α : Type} {z : α} {f : List UInt8 → Option (α × List UInt8)} (hf : ∀ bs x, f bs = some x → x.2.length ≤ bs.length) (s : RS) : (rd1 z f s).2.1.length ≤ s.1.length := by
 unfold rd1
 split
 ·exact zf _
 ·split
  ·rename_i x hx
   exact hf _ _ hx
  ·exact zf _
theorem rdn_len (most : Nat) (s : RS) : (rdn most s).2.1.length ≤ s.1.length := rd1_len (fun _ _ h => (numRes_some h).2) s
theorem rdt_len (most : Int) (s : RS) : (rdt most s).2.1.length ≤ s.1.length := rd1_len (fun _ _ h => (textRes_some h).2.1) s
theorem rdn_le (most : Nat) (s : RS) : (rdn most s).1 ≤ most := by
 unfold rdn rd1
 split
 ·exact zF _
 ·split
  ·rename_i x hx
   exact (numRes_some hx).1
  ·exact zF _
theorem rdt_le {most : Int} (h0 : 0 ≤ most) (s : RS) : ((rdt most s).1.length : Int) ≤ most := by
 unfold rdt rd1
 split
 ·simpa using h0
 ·split
  ·rename_i x hx
   exact (textRes_some hx).1
  ·simpa using h0
def PNum (w : World) (g : Nat) (x : Value) (t : RS) (e : Ending) (w' : World) : Prop := e = .returned x ∧ RdrAt w' g g t.1 t.2 ∧ Frm (fun k => k = g) w w'
theorem pNum (w : World) (g : Nat) (s : RS) (most : Nat) (hm : most < 18446744073709551616) (h : RdrAt w g g s.1 s.2) :
 Calls Tryz.prog 77 #[.pointer (some ⟨g, 0, none⟩), .int .u64 (most : Int)] w fun e w' => PNum w g (.int .u64 ((rdn most s).1 : Int)) (rdn most s).2 e w' := by
 refine (readNumber_any w g g s.1 s.2 most hm h).mono ?_
 rintro e w' ⟨h1, h2, h3⟩
 obtain ⟨bs, bad⟩ := s
 cases bad with
 | true => exact ⟨h1, h2, h3⟩
 | false =>
  dsimp only at h1 h2
  rw [show ifGood false (qG most bs) = qG most bs from rfl] at h1 h2
  unfold rdn rd1
  dsimp only
  rw [zk (by simp)]
  cases hr : qG most bs with
  | none => rw [hr] at h1 h2; exact ⟨h1, h2, h3⟩
  | some x => rw [hr] at h1 h2; exact ⟨h1, h2, h3⟩
def PText (w : World) (g : Nat) (x : List UInt8) (t : RS) (e : Ending) (w' : World) : Prop :=
 ∃ v, e = .returned v ∧ Sl w' w.heap.size 5 1 v x.length (x.map bv) ∧ RdrAt w' g g t.1 t.2 ∧ Frm (fun k => k = g) w w'
theorem pText (w : World) (g : Nat) (s : RS) (most : Int) (hmx : most ≤ 9223372036854775807) (hbl : s.1.length ≤ 140737488355328) (h : RdrAt w g g s.1 s.2) :
 Calls Tryz.prog 75 #[.pointer (some ⟨g, 0, none⟩), .int .i64 most] w fun e w' => PText w g (rdt most s).1 (rdt most s).2 e w' := by
 refine (readText_any w g g s.1 s.2 most hmx hbl h).mono ?_
 rintro e w' ⟨v, t, h1, h0, hs, h2, h3⟩
 obtain ⟨bs, bad⟩ := s
 cases bad with
 | true => (
  have e : t = [] := h0
  rw [e] at hs
  exact ⟨v, h1, hs, h2, h3⟩)
 | false =>
  dsimp only at h0 h2
  rw [show ifGood false (qH most bs) = qH most bs from rfl] at h0 h2
  unfold rdt rd1
  dsimp only
  rw [zk (by simp)]
  cases hr : qH most bs with
  | none => rw [hr] at h0 h2; (have e : t = [] := h0); rw [e] at hs; exact ⟨v, h1, hs, h2, h3⟩
  | some x => rw [hr] at h0 h2; (have e : t = x.1 := h0); rw [e] at hs; exact ⟨v, h1, hs, h2, h3⟩
theorem pWhole (w : World) (g : Nat) (s : RS) (h : RdrAt w g g s.1 s.2) :
 Calls Tryz.prog 62 #[.pointer (some ⟨g, 0, none⟩)] w fun e w' => e = .returned (.bool (wholeS s)) ∧ w = w' := whole_any w g g s.1 s.2 h
def DocAt (w : World) (B g : Nat) (s : RS) : Prop := ∃ bs at_, RefAt w B g bs at_ s.2 ∧ at_ ≤ bs.length ∧ bs.length ≤ 140737488355328 ∧ (s.2 = false → s.1 = bs.drop at_)
theorem DocAt.frm {w w' : World} {B g : Nat} {s : RS} {S : Nat → Prop} (h : DocAt w B g s) (hf : Frm S w w') (hg : ¬ S g) (hS : ∀ k, k < B → ¬ S k) : DocAt w' B g s := by
 obtain ⟨bs, a, h1, h2⟩ := h
 exact ⟨bs, a, h1.frm hf hg hS, h2⟩
theorem DocAt.fresh {w w' : World} {B g : Nat} {s : RS} (h : DocAt w B g s) (F : Fresh w w') : DocAt w' B g s := h.frm F (fun f => f) (fun _ _ f => f)
theorem DocAt.lt {w : World} {B g : Nat} {s : RS} (h : DocAt w B g s) : g < w.heap.size := by
 obtain ⟨_, _, h, _⟩ := h; exact h.lt
theorem DocAt.blk {w : World} {B g : Nat} {s : RS} (h : DocAt w B g s) : ∃ cs, Blk w g 100 cs := by
 obtain ⟨_, _, ⟨_, _, h, _⟩, _⟩ := h; exact ⟨_, h⟩
theorem DocAt.step {α : Type} {z : α} {f : List UInt8 → Option (α × List UInt8)} {w w' : World} {B g : Nat} {s : RS} {bs : List UInt8} {a : Nat} (hl : bs.length ≤ 140737488355328) (he : s.2 = false → s.1 = bs.drop a)
 (h : StepTo w B g bs ((ifGood s.2 (f (bs.drop a))).map (·.2)) w') : DocAt w' B g (rd1 z f s).2 ∧ Frm (fun k => k = g) w w' := by
 obtain ⟨at', h1, h2, h3, h4⟩ := h
 obtain ⟨b, bad⟩ := s
 refine ⟨⟨bs, at', ?_, h1, hl, ?_⟩, h4⟩
 ·cases bad with
  | true => exact h2
  | false =>
   have e := he rfl
   dsimp only at e
   subst e
   have := rd1_bad z f (bs.drop a, false)
   dsimp only at this
   rw [← this]
   rw [Option.isNone_map] at h2
   exact h2
 ·cases bad with
  | true =>
   intro hh
   unfold rd1 at hh
   cases hh
  | false =>
   have e := he rfl
   dsimp only at e
   subst e
   intro hh
   unfold rd1 at hh ⊢
   dsimp only [ifGood] at hh ⊢ h3
   rw [zk (by simp)] at hh ⊢
   cases hr : f (bs.drop a) with
   | none => rw [hr] at hh; cases hh
   | some x =>
    rw [hr] at h3
    exact h3 x.2 rfl
theorem DocAt.val {α : Type} {z : α} {f : List UInt8 → Option (α × List UInt8)} {s : RS} {bs : List UInt8} {a : Nat} (he : s.2 = false → s.1 = bs.drop a) :
 (s.2 = true ∧ (rd1 z f s).1 = z) ∨ (s.2 = false ∧ f (bs.drop a) = none ∧ (rd1 z f s).1 = z) ∨ (∃ x, s.2 = false ∧ f (bs.drop a) = some x ∧ (rd1 z f s).1 = x.1) := by
 obtain ⟨b, bad⟩ := s
 cases bad with
 | true => exact .inl ⟨rfl, rfl⟩
 | false =>
  have e := he rfl
  dsimp only at e
  subst e
  unfold rd1
  dsimp only
  rw [zk (by simp)]
  cases hr : f (bs.drop a) with
  | none => exact .inr (.inl ⟨rfl, rfl, rfl⟩)
  | some x => exact .inr (.inr ⟨x, rfl, rfl, rfl⟩)
def DNum (w : World) (B g : Nat) (x : Value) (t : RS) (e : Ending) (w' : World) : Prop := e = .returned x ∧ DocAt w' B g t ∧ Frm (fun k => k = g) w w'
theorem dNum (w : World) (B g : Nat) (s : RS) (most : Nat) (h : DocAt w B g s) :
 Calls Tryz.prog 39 #[.pointer (some ⟨g, 0, none⟩), .int .u64 (most : Int)] w fun e w' => DNum w B g (.int .u64 ((rdn most s).1 : Int)) (rdn most s).2 e w' := by
 obtain ⟨bs, a, h1, h2, h3, h4⟩ := h
 refine (rNumber_any w B g bs a s.2 most h2 h3 h1).mono ?_
 rintro e w' ⟨k1, k2⟩
 obtain ⟨k3, k4⟩ := DocAt.step (z := 0) (f := qG most) h3 h4 k2
 refine ⟨?_, k3, k4⟩
 rcases DocAt.val (z := 0) (f := qG most) h4 with ⟨v1, v2⟩ | ⟨v1, v2, v3⟩ | ⟨x, v1, v2, v3⟩
 ·rw [v1] at k1; exact k1.trans (congrArg (fun n : Nat => Ending.returned (.int .u64 (n : Int))) v2.symm)
 ·rw [v1, v2] at k1; exact k1.trans (congrArg (fun n : Nat => Ending.returned (.int .u64 (n : Int))) v3.symm)
 ·rw [v1, v2] at k1; exact k1.trans (congrArg (fun n : Nat => Ending.returned (.int .u64 (n : Int))) v3.symm)
def DText (w : World) (B g : Nat) (x : List UInt8) (t : RS) (e : Ending) (w' : World) : Prop :=
 ∃ v, e = .returned v ∧ Sl w' w.heap.size 5 1 v x.length (x.map bv) ∧ DocAt w' B g t ∧ Frm (fun k => k = g) w w'
theorem dText (w : World) (B g : Nat) (s : RS) (most : Int) (hmx : most ≤ 9223372036854775807) (h : DocAt w B g s) :
 Calls Tryz.prog 40 #[.pointer (some ⟨g, 0, none⟩), .int .i64 most] w fun e w' => DText w B g (rdt most s).1 (rdt most s).2 e w' := by
 obtain ⟨bs, a, h1, h2, h3, h4⟩ := h
 refine (rText_any w B g bs a s.2 most hmx h2 h3 h1).mono ?_
 rintro e w' ⟨v, t, k1, k0, ks, k2⟩
 obtain ⟨k3, k4⟩ := DocAt.step (z := []) (f := qH most) h3 h4 k2
 have k0' : t = (rd1 [] (qH most) s).1 := by
  rcases DocAt.val (z := []) (f := qH most) h4 with ⟨v1, v2⟩ | ⟨v1, v2, v3⟩ | ⟨x, v1, v2, v3⟩
  ·rw [v1] at k0; exact k0.trans v2.symm
  ·rw [v1, v2] at k0; exact k0.trans v3.symm
  ·rw [v1, v2] at k0; exact k0.trans v3.symm
 subst k0'
 exact ⟨v, k1, ks, k3, k4⟩
theorem dWhole (w : World) (B g : Nat) (s : RS) (h : DocAt w B g s) :
 Calls Tryz.prog 41 #[.pointer (some ⟨g, 0, none⟩)] w fun e w' => e = .returned (.bool (wholeS s)) ∧ ∃ n, w' = w.drewN n := by
 obtain ⟨bs, a, h1, h2, h3, h4⟩ := h
 have e : refWholeB bs a s.2 = wholeS s := by
  obtain ⟨b, bad⟩ := s
  cases bad with
  | true => rfl
  | false =>
   have e := h4 rfl
   dsimp only at e
   subst e
   unfold refWholeB wholeS
   dsimp only
   rw [Bool.not_false, Bool.true_and, Bool.true_and]
   rcases zL a bs.length with h | h
   ·rw [zb (by omega)]
    cases hd : bs.drop a with
    | nil =>
     have := zN (i := a) (l := bs)
     rw [hd] at this
     simp at this
     omega
    | cons x r => rfl
   ·rw [zc (by omega), List.drop_eq_nil_of_le h]
    rfl
 rw [← e]
 exact rWhole_any w B g bs a s.2 h1
def rmany {α : Type} (f : RS → α × RS) : Nat → RS → List α × RS
 | 0, s => ([], s)
 | n + 1, s => ((rmany f n s).1 ++ [(f (rmany f n s).2).1], (f (rmany f n s).2).2)
theorem rmany_len {α : Type} (f : RS → α × RS) : ∀ (n : Nat) (s : RS), (rmany f n s).1.length = n
 | 0, _ => rfl
 | n + 1, s => by
  unfold rmany
  rw [zg, rmany_len f n s]
  rfl
theorem rmany_all {α : Type} (f : RS → α × RS) (P : α → Prop) (hf : ∀ s, P (f s).1) : ∀ (n : Nat) (s : RS), ∀ x ∈ (rmany f n s).1, P x
 | 0, _ => by intro x hx; cases hx
 | n + 1, s => by
  intro x hx
  unfold rmany at hx
  rcases zy.mp hx with h | h
  ·exact rmany_all f P hf n s x h
  ·rw [zO.mp h]
   exact hf _
def rdni (most : Nat) (s : RS) : Int × RS := (((rdn most s).1 : Int), (rdn most s).2)
def rdf (s : RS) : Nat × RS := (FareM.of (rdn 18446744073709551615 s).1, (rdn 18446744073709551615 s).2)
def cm0 : Cm := ⟨0, [], 0, 0, 0, 0, 0, [], 0, [], []⟩
def cmdS (s0 : RS) : Cm × RS :=
 let a1 := rdn 9 s0
 let a2 := rdt 16 a1.2
 let a3 := rdn 9999 a2.2
 let a4 := rdn 9999 a3.2
 let a5 := rdn 9999 a4.2
 let a6 := rdn 1099511627776 a5.2
 let a7 := rdn 18446744073709551615 a6.2
 let a8 := rdt 16 a7.2
 let a9 := rdn 9999 a8.2
 let b1 := rdn 16 a9.2
 let c1 := rmany (rdni 9999) b1.1 b1.2
 let b2 := rdn 16 c1.2
 let c2 := rmany rdf b2.1 b2.2
 (⟨(a1.1 : Int), a2.1, (a3.1 : Int), (a4.1 : Int), (a5.1 : Int), (a6.1 : Int), FareM.of a7.1, a8.1, (a9.1 : Int), c1.1, c2.1⟩, c2.2)
theorem rdn_int (most : Nat) (s : RS) : 0 ≤ ((rdn most s).1 : Int) ∧ ((rdn most s).1 : Int) ≤ (most : Int) := by
 have := rdn_le most s
 omega
theorem cmdS_ok (s : RS) : CmB (cmdS s).1 := by
 refine ⟨rdn_int 9 _, ?_, rdn_int 9999 _, rdn_int 9999 _, rdn_int 9999 _, rdn_int 1099511627776 _, ?_, rdn_int 9999 _, ⟨?_, ?_⟩, ?_, ?_⟩
 ·have := rdt_le (most := 16) (by omega) (rdn 9 s).2
  show (rdt 16 (rdn 9 s).2).1.length ≤ 16
  omega
 ·unfold cmdS
  dsimp only
  have := rdt_le (most := 16) (by omega) (rdn 18446744073709551615 (rdn 1099511627776 (rdn 9999 (rdn 9999 (rdn 9999 (rdt 16 (rdn 9 s).2).2).2).2).2).2).2
  omega
 ·unfold cmdS
  dsimp only
  rw [rmany_len]
  exact rdn_le 16 _
 ·unfold cmdS
  dsimp only
  exact rmany_all _ (fun x => 0 ≤ x ∧ x ≤ 9999) (fun s => rdn_int 9999 s) _ _
 ·unfold cmdS
  dsimp only
  rw [rmany_len]
  exact rdn_le 16 _
 ·unfold cmdS
  dsimp only
  refine rmany_all _ (fun x => x < 18446744073709551616) (fun s => ?_) _ _
  have := rdn_le 18446744073709551615 s
  exact FareM.of_lt (by omega)
def decA (bs : List UInt8) : Cm × Int := if (wholeS (cmdS (bs, false)).2 && decide (1 ≤ (cmdS (bs, false)).1.kind)) = true then ((cmdS (bs, false)).1, 0) else (cm0, 6)
theorem decA_ok {bs : List UInt8} (h : (decA bs).2 = 0) : CmB (decA bs).1 ∧ 1 ≤ (decA bs).1.kind := by
 unfold decA at h ⊢
 split at h
 ·rename_i hh
  rw [zl hh]
  rw [Bool.and_eq_true, decide_eq_true_eq] at hh
  exact ⟨cmdS_ok _, hh.2⟩
 ·exact absurd h (by omega)
def cz0 : List Value := ccel cm0 none 0 none 0
structure D0 (w : World) (g : Nat) (s : RS) (wk : World) : Prop where
 rdr : DocAt wk g g s
 low : w.heap.size < g
 res : Blk wk w.heap.size 95 cz0.toArray
 frm : Fresh w wk
theorem D0.fresh {w wk w' : World} {g : Nat} {s : RS} (h : D0 w g s wk) (F : Fresh wk w') : D0 w g s w' :=
 ⟨h.rdr.fresh F, h.low, h.res.frm F (fun f => f), h.frm.trans F⟩
theorem D0.read {w wk w' : World} {g : Nat} {s t : RS} (h : D0 w g s wk) (hr : DocAt w' g g t) (F : Frm (fun k => k = g) wk w') : D0 w g t w' := by
 obtain ⟨_, hb⟩ := h.rdr.blk
 exact ⟨hr, h.low, h.res.frm F (h.res.apart hb (by decide)), h.frm.trans' F (fun k hk e => by have := h.low; omega)⟩
structure DC (w : World) (g q : Nat) (s : RS) (cs : List Value) (wk : World) : Prop where
 d : D0 w g s wk
 gq : g < q
 box : Blk wk q 95 cs.toArray
theorem DC.fresh {w wk w' : World} {g q : Nat} {s : RS} {cs : List Value} (h : DC w g q s cs wk) (F : Fresh wk w') : DC w g q s cs w' :=
 ⟨h.d.fresh F, h.gq, h.box.frm F (fun f => f)⟩
theorem DC.read {w wk w' : World} {g q : Nat} {s t : RS} {cs : List Value} (h : DC w g q s cs wk) (hr : DocAt w' g g t) (F : Frm (fun k => k = g) wk w') : DC w g q t cs w' :=
 ⟨h.d.read hr F, h.gq, h.box.frm F (by have := h.gq; omega)⟩
theorem DC.far {w wk w' : World} {g q : Nat} {s : RS} {cs : List Value} {S : Nat → Prop} (h : DC w g q s cs wk) (F : Frm S wk w') (hS : ∀ k, S k → q < k) : DC w g q s cs w' := by
 have h1 := h.gq
 have h2 := h.d.low
 exact ⟨⟨h.d.rdr.frm F (fun e => by have := hS _ e; omega) (fun k hk e => by have := hS _ e; omega), h2, h.d.res.frm F (fun e => by have := hS _ e; omega), h.d.frm.trans' F (fun k hk e => by have := hS _ e; omega)⟩, h1, h.box.frm F (fun e => by have := hS _ e; omega)⟩
theorem DC.set {w wk : World} {g q : Nat} {s : RS} {cs : List Value} (h : DC w g q s cs wk) (i : Nat) (u : Value) : DC w g q s (cs.set i u) (wk.setCell ⟨q, i, none⟩ u) := by
 have h1 := h.gq
 have h2 := h.d.low
 have F : Frm (fun k => k = q) wk (wk.setCell ⟨q, i, none⟩ u) := (za (fun k => k = q) wk).setCell (p := ⟨q, i, none⟩) (fun _ => rfl) u
 refine ⟨⟨h.d.rdr.frm F (by omega) (fun k hk e => by omega), h2, h.d.res.frm F (by omega), h.d.frm.trans' F (fun k hk e => by omega)⟩, h1, ?_⟩
 have hb := h.box.set i u
 rw [List.setIfInBounds_toArray] at hb
 exact hb
theorem DC.num {w wk : World} {g q : Nat} {s : RS} {cs : List Value} (h : DC w g q s cs wk) (most : Nat) {x : Nat} {t : RS} (hx : rdn most s = (x, t)) :
 Calls Tryz.prog 39 #[.pointer (some ⟨g, 0, none⟩), .int .u64 (most : Int)] wk fun e w' => e = .returned (.int .u64 (x : Int)) ∧ DC w g q t cs w' ∧ Frm (fun k => k = g) wk w' := by
 refine (dNum wk g g s most h.d.rdr).mono ?_
 rintro e w' ⟨h1, h2, h3⟩
 rw [hx] at h1 h2
 exact ⟨h1, h.read h2 h3, h3⟩
theorem D0.num {w wk : World} {g : Nat} {s : RS} (h : D0 w g s wk) (most : Nat) {x : Nat} {t : RS} (hx : rdn most s = (x, t)) :
 Calls Tryz.prog 39 #[.pointer (some ⟨g, 0, none⟩), .int .u64 (most : Int)] wk fun e w' => e = .returned (.int .u64 (x : Int)) ∧ D0 w g t w' := by
 refine (dNum wk g g s most h.rdr).mono ?_
 rintro e w' ⟨h1, h2, h3⟩
 rw [hx] at h1 h2
 exact ⟨h1, h.read h2 h3⟩
def TxP (w' : World) (x : List UInt8) (e : Ending) : Prop := ∃ A c, e = .returned (.slice A x.length c) ∧ (convert 39 9 (.slice A x.length c)).run Tryz.prog w' = .ok (.string (str x)) w'
theorem tx_of {w w' : World} {x : List UInt8} {e : Ending} {v : Value} (h1 : e = .returned v) (h2 : Sl w' w.heap.size 5 1 v x.length (x.map bv)) : TxP w' x e := by
 obtain ⟨A, c, rfl, _⟩ := h2.shape
 exact ⟨A, c, h1, conv_bytes 39 9 5 rfl rfl rfl c h2.rd rfl⟩
theorem D0.text {w wk : World} {g : Nat} {s : RS} (h : D0 w g s wk) {x : List UInt8} {t : RS} (hx : rdt 16 s = (x, t)) :
 Calls Tryz.prog 40 #[.pointer (some ⟨g, 0, none⟩), .int .i64 16] wk fun e w' => TxP w' x e ∧ D0 w g t w' := by
 refine (dText wk g g s 16 (by omega) h.rdr).mono ?_
 rintro e w' ⟨v, h1, h2, h3, h4⟩
 rw [hx] at h2 h3
 exact ⟨tx_of h1 h2, h.read h3 h4⟩
theorem DC.text {w wk : World} {g q : Nat} {s : RS} {cs : List Value} (h : DC w g q s cs wk) {x : List UInt8} {t : RS} (hx : rdt 16 s = (x, t)) :
 Calls Tryz.prog 40 #[.pointer (some ⟨g, 0, none⟩), .int .i64 16] wk fun e w' => TxP w' x e ∧ DC w g q t cs w' := by
 refine (dText wk g g s 16 (by omega) h.d.rdr).mono ?_
 rintro e w' ⟨v, h1, h2, h3, h4⟩
 rw [hx] at h2 h3
 exact ⟨tx_of h1 h2, h.read h3 h4⟩
theorem info_f64 : (Tryz.prog.info? 90).map (fun i => (i.zero, i.size, i.bytes)) = some (some (.float .f64 0), 1, 8) := by kernel_rfl
theorem Sl.differ {w : World} {B B' e e' size size' n n' : Nat} {v v' : Value} {xs xs' : List Value} (h : Sl w B e size v n xs) (h' : Sl w B' e' size' v' n' xs') (hne : e ≠ e') {k : Nat} (h1 : v.ownBlock = some k) (h2 : v'.ownBlock = some k) : False := by
 obtain ⟨cs, hb, _⟩ := h.has h1
 exact h'.apart hb (Ne.symm hne) h2
def CmdPost (w : World) (bs : List UInt8) (e : Ending) (w' : World) : Prop :=
 ∃ c code GA gc PA pc, decA bs = (c, code) ∧ e = .returned (.tuple #[.agg (ccel c GA gc PA pc).toArray, .int .i64 code]) ∧ CmL w' c GA gc PA pc ∧ Fresh w w'
end
section
open Go.RowKit
attribute [local go_sem ↓] Go.wp_at_zero Go.wp_at_succ
def RqV (k cl sq tk : Nat) (A : Option Addr) (n c : Nat) : Value := .agg #[.int .i64 (k : Int), .int .i64 (cl : Int), .int .i64 (sq : Int), .int .i64 (tk : Int), .slice A n c]
theorem pRight_do (w : World) (sq : Nat) (h1 : 1 ≤ sq) (h2 : sq ≤ 1000000) (A : Option Addr) (n c : Nat) (hn : n ≤ 4000) :
 Calls Tryz.prog 35 #[.agg #[.int .i64 2, .int .i64 1, .int .i64 (sq : Int), .int .i64 0, .slice A n c]] w fun e w' => e = .returned (.bool true) ∧ Fresh w w' := by
 have HANY : Hid ([1, (sq : Int), 0].any oddNum = false) := zh (by simp [oddNum]; omega)
 obtain ⟨W, hW⟩ : ∃ W, W = (w.alloc (.cells #[.int .i64 2, .int .i64 1, .int .i64 (sq : Int), .int .i64 0, .slice A n c] 67)).alloc (.cells #[.int .i64 1, .int .i64 (sq : Int), .int .i64 0] 3) := ⟨_, rfl⟩
 have HF : Hid (Fresh w W) := zh (by rw [hW]; exact ((za _ _).alloc _).alloc _)
 have R : Rd W W.heap.size (some ⟨w.heap.size + 1, 0, none⟩) ([1, (sq : Int), 0].map civ) := by
  rw [hW]
  have := jL (w.alloc (.cells #[.int .i64 2, .int .i64 1, .int .i64 (sq : Int), .int .i64 0, .slice A n c] 67)) ([1, (sq : Int), 0].map civ) 3
  rw [zJ] at this
  exact this.more (by simp)
 have H := jM _ _ oddNum_tests W _ 3 [1, (sq : Int), 0] R (by simp)
 rw [HANY.out] at H
 rw [hW] at H
 have HC := zh H
 rw [hW] at HF
 have d1 : decide ((4000 : Int) < (n : Int)) = false := zb (by omega)
 have d2 : decide (4000 < n) = false := zb (by omega)
 have d3 : ((sq : Int) == 0) = false := by rw [zC]; omega
 have d4 : (sq == 0) = false := by rw [zC]; omega
 have d5 : ¬ sq = 0 := by omega
 clear R H hW
 go_in
 go_wp2_with fail
 refine HC.out.mono ?_
 rintro e w1 ⟨rfl, hw1⟩
 rw [hw1]
 clear hw1 w1
 go_wp2_with fail
 all_goals (go_ret; exact ⟨rfl, HF.out⟩)
theorem pRight_look (w : World) (A : Option Addr) (n c : Nat) (hn : n ≤ 4000) :
 Calls Tryz.prog 35 #[.agg #[.int .i64 4, .int .i64 0, .int .i64 0, .int .i64 0, .slice A n c]] w fun e w' => e = .returned (.bool true) ∧ Fresh w w' := by
 have HANY : Hid ([0, 0, 0].any oddNum = false) := zh (by simp [oddNum])
 obtain ⟨W, hW⟩ : ∃ W, W = (w.alloc (.cells #[.int .i64 4, .int .i64 0, .int .i64 0, .int .i64 0, .slice A n c] 67)).alloc (.cells #[.int .i64 0, .int .i64 0, .int .i64 0] 3) := ⟨_, rfl⟩
 have HF : Hid (Fresh w W) := zh (by rw [hW]; exact ((za _ _).alloc _).alloc _)
 have R : Rd W W.heap.size (some ⟨w.heap.size + 1, 0, none⟩) (([0, 0, 0] : List Int).map civ) := by
  rw [hW]
  have := jL (w.alloc (.cells #[.int .i64 4, .int .i64 0, .int .i64 0, .int .i64 0, .slice A n c] 67)) (([0, 0, 0] : List Int).map civ) 3
  rw [zJ] at this
  exact this.more (by simp)
 have H := jM _ _ oddNum_tests W _ 3 [0, 0, 0] R (by simp)
 rw [HANY.out] at H
 rw [hW] at H
 have HC := zh H
 rw [hW] at HF
 have d1 : decide ((4000 : Int) < (n : Int)) = false := zb (by omega)
 have d2 : decide (4000 < n) = false := zb (by omega)
 clear R H hW
 go_in
 go_wp2_with fail
 refine HC.out.mono ?_
 rintro e w1 ⟨rfl, hw1⟩
 rw [hw1]
 clear hw1 w1
 go_wp2_with fail
 all_goals (go_ret; exact ⟨rfl, HF.out⟩)
def EncPost (w : World) (l : List Nat) (cmd : List UInt8) (e : Ending) (w' : World) : Prop := ∃ v bs, e = .returned (.tuple #[v, .int .i64 0]) ∧ bs = codes l ++ FieldM.text cmd ∧ Sl w' w.heap.size 5 1 v bs.length (bs.map bv) ∧ Fresh w w'
theorem encode_any (w : World) (k cl sq tk : Nat) (hk : k ≤ 4 ∧ cl ≤ 1 ∧ sq ≤ 1000000 ∧ tk ≤ 1000) (A : Option Addr) (c : Nat) (cmd : List UInt8) (hc : cmd.length ≤ 4000) (hA : Rd w w.heap.size A (cmd.map bv))
 (HR : ∀ w, Calls Tryz.prog 35 #[RqV k cl sq tk A cmd.length c] w fun e w' => e = .returned (.bool true) ∧ Fresh w w') :
 Calls Tryz.prog 20 #[RqV k cl sq tk A cmd.length c] w fun e w' => EncPost w [k, cl, sq, tk] cmd e w' := by
 obtain ⟨i0, hi, hz0, hz1, hz2⟩ := info_parts info_u8
 have HA : Hid (∀ w', Fresh w w' → Rd w' w'.heap.size A (cmd.map bv)) := zh fun w' F => (hA.fresh (zf _) F).more F.size
 have HRT := zh HR
 unfold RqV at HRT ⊢
 have HTL : (FieldM.text cmd).length ≤ 5000 := by
  have h1 := FieldM.num_length cmd.length
  have h2 := FieldM.wid_le (n := cmd.length) (by omega)
  unfold FieldM.text
  rw [zg]
  omega
 have HT : Hid (∀ w', Fresh w w' → Calls Tryz.prog 37 #[.slice A cmd.length c] w' fun e w'' => ∃ v, e = .returned v ∧ Sl w'' w'.heap.size 5 1 v (FieldM.text cmd).length ((FieldM.text cmd).map bv) ∧ Fresh w' w'') := zh fun w' F => text_any A c cmd w' (HA.out w' F) (by omega)
 generalize hts : FieldM.text cmd = ts at HT HTL
 have HTS := zh hts
 clear hts hA HR
 generalize cmd.length = n at HT HRT HA hc
 go_in
 go_wp2_with fail
 obtain ⟨w0, hw0⟩ : ∃ w0, w.alloc (.cells #[.int .i64 (k : Int), .int .i64 (cl : Int), .int .i64 (sq : Int), .int .i64 (tk : Int), .slice A n c] 67) = w0 := ⟨_, rfl⟩
 rw [hw0]
 have HF0 : Hid (Fresh w w0) := zh (by rw [← hw0]; exact (za _ _).alloc _)
 have BX : Hid (Blk w0 w.heap.size 67 #[.int .i64 (k : Int), .int .i64 (cl : Int), .int .i64 (sq : Int), .int .i64 (tk : Int), .slice A n c]) := zh (by rw [← hw0]; exact Blk.new w _ _)
 clear hw0
 refine (HRT.out w0).mono ?_
 rintro e w1 ⟨rfl, f1⟩
 have HF1 := zh (HF0.out.trans f1)
 have CELL : Hid (∀ w', Fresh w1 w' → w'.cell? ⟨w.heap.size, 0, none⟩ = some (.int .i64 (k : Int)) ∧ w'.cell? ⟨w.heap.size, 1, none⟩ = some (.int .i64 (cl : Int)) ∧ w'.cell? ⟨w.heap.size, 2, none⟩ = some (.int .i64 (sq : Int)) ∧ w'.cell? ⟨w.heap.size, 3, none⟩ = some (.int .i64 (tk : Int)) ∧ w'.cell? ⟨w.heap.size, 4, none⟩ = some (.slice A n c)) := zh fun w' F => by
  have k := BX.out.frm (f1.trans F) (fun f => f)
  exact ⟨k.cell 0, k.cell 1, k.cell 2, k.cell 3, k.cell 4⟩
 obtain ⟨W, hW⟩ : ∃ W, W = (w1.alloc (.cells #[.int .i64 (k : Int), .int .i64 (cl : Int), .int .i64 (sq : Int), .int .i64 (tk : Int)] 3)).drew := ⟨_, rfl⟩
 have HW : Hid (Fresh w1 W) := zh (by rw [hW]; exact ((za _ w1).alloc _).drew)
 have R : Rd W W.heap.size (some ⟨w1.heap.size, 0, none⟩) ([k, cl, sq, tk].map nv) := by
  rw [hW]
  exact ((jL w1 ([k, cl, sq, tk].map nv) 3).drew).more (by simp)
 have HN := zh (numbers_any W (some ⟨w1.heap.size, 0, none⟩) 4 [k, cl, sq, tk] R (by simp) (by
  intro n hn
  simp at hn
  omega))
 have HCL := codes_len [k, cl, sq, tk] (by
  intro n hn
  simp at hn
  omega)
 simp only [zG, zX] at HCL
 have hsz1 := HF1.out.size
 generalize hcs : codes [k, cl, sq, tk] = cs at HN HCL
 have HCS := zh hcs
 clear hcs R f1
 go_wp2_with fail
 go_region_held3 (fun w' => w'.cell? ⟨w.heap.size, 0, none⟩ = some (.int .i64 (k : Int)) ∧ w'.cell? ⟨w.heap.size, 1, none⟩ = some (.int .i64 (cl : Int)) ∧ w'.cell? ⟨w.heap.size, 2, none⟩ = some (.int .i64 (sq : Int)) ∧ w'.cell? ⟨w.heap.size, 3, none⟩ = some (.int .i64 (tk : Int)) ∧ w'.cell? ⟨w.heap.size, 4, none⟩ = some (.slice A n c))
  (first | exact CELL.out _ (za _ _) | exact CELL.out _ ((za _ _).drew) | exact CELL.out _ HW.out | exact CELL.out _ (((za _ w1).alloc _).drew) | exact CELL.out _ (HW.out.trans HF3.out) | exact CELL.out _ ((HW.out.trans HF3.out).trans HF4.out) | exact CELL.out _ HF5.out)
  (first
   | (go_at_call 36; rw [← hW]; show Calls _ _ #[Value.slice (some ⟨w1.heap.size, 0, none⟩) 4 4] W _; refine HN.out.mono ?_; rintro e w3 ⟨v3, rfl, hs3, f3⟩; have HS3 := zh hs3; have HF3 := zh f3; clear hs3 f3)
   | (go_at_call 37; show Calls _ _ #[Value.slice A n c] w3 _; refine (HT.out w3 (HF1.out.trans (HW.out.trans HF3.out))).mono ?_; rintro e w4 ⟨v4, rfl, hs4, f4⟩; have HS4 := zh hs4; have HF4 := zh f4; obtain ⟨A4, c4, rfl, _⟩ := hs4.shape; clear hs4 f4; have HSA := zh (HS3.out.fresh HF4.out))
   | (refine cl_step_append_sl (by rfl) (.tmp 16) (.tmp 19) 39 (by rfl) W.heap.size 5 i0 _ 1 1 Tryz.underlying39 hi hz0 hz1 hz2 rfl (by omega) v3 cs.length (cs.map bv) (by rfl) HSA.out _ A4 ts.length c4 (ts.map bv) (by rfl) (by rw [zB, Nat.mul_one]) HS4.out.rd (bv_one _) (by unfold maxLen; omega) (by omega) (HF3.out.trans HF4.out).size ?_; intro v5 w5 hs5 hf5 ha5; have HF5 : Hid (Fresh w1 w5) := zh (((HW.out.trans HF3.out).trans HF4.out).trans' hf5 (fun i hi hk => by have := (HSA.out.lt _ hk).1; have := HW.out.size; omega)); have HS5 := zh hs5; clear hs5 hf5 ha5))
 go_wp2_with fail
 go_ret2
 exact ⟨_, _, rfl, rfl, by rw [HCS.out, HTS.out, zg, zn]; exact HS5.out.less (by have := HW.out.size; omega), HF1.out.trans HF5.out⟩
end
end Go.Proofs.YtnmokpbomeamfaaGreat

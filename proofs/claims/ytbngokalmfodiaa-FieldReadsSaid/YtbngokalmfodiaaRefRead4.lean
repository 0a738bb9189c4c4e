/- What the reference's reader computes: Text. -/
import Derived.Test.YtbngokalmfodiaaRefRead3
import Derived.Deep.RegionHeld3
namespace Go.Proofs.Ytbngokalmfodiaa
open Go.RowKit ReadM

theorem step_append_sl {P : Program} {w : World} {ops : Array Oper} {o : Oper} {a : Act} {K : Act → World → Prop} {Q : Exit → Act → World → Prop} {E : Prop} (hgd : o.guard = none) (s x : Operand) (t : TypeId)
    (ho : o.op = .call { callee := .builtin .append, args := #[s, x], argTypes := #[t, t] })
    (B : Nat) (e : TypeId) (i : TypeInfo) (z : Value) (size bytes : Nat) (ht : P.underlying t = some (.slice e)) (hi : P.info? e = some i) (hz : i.zero = some z)
    (hsize : i.size = size) (hby : i.bytes = bytes) (hzs : z.cells.size = size) (hsz : 0 < size)
    (v : Value) (n : Nat) (xs : List Value) (hs : a.eval s = v) (hown : Sl w B e size v n xs)
    (B' : Nat) (A : Option Addr) (m c : Nat) (news : List Value) (hx : a.eval x = .slice A m c) (hl : news.length = m * size) (hr : Rd w B' A news) (h1 : ∀ u ∈ news, u.oneCell' = true)
    (h63 : n + m ≤ maxLen) (hbytes : (n + m) * bytes ≤ 140737488355328) (hB : B ≤ w.heap.size)
    (h : ∀ v' w', Sl w' B e size v' (n + m) (xs ++ news) → Frm (fun k => v.ownBlock = some k) w w' → (v'.ownBlock = v.ownBlock ∨ v'.ownBlock = some w.heap.size) → K (a.put o.dst v') w') :
    if Region.wanted o (yielded ops a.tmps) = true then Oper.wp P o a w K Q else E := by
  have hw : Region.wanted o (yielded ops a.tmps) = true := by simp [Region.wanted, hgd]
  rw [if_pos hw]
  obtain ⟨v', w', hrun, h2, h3, h4⟩ := run_append_sl (P := P) w B t o.type e i z size bytes ht hi hz hsize hby hzs hsz v n xs hown B' A m c news hl hr h1 h63 hbytes hB
  unfold Oper.wp execOp
  simp only [ho, resolve, invoke, builtin, Sem.run_bind, Sem.run_pure, Result.andThen_ok, List.map_toArray, List.map_cons, List.map_nil, hs, hx, hrun]
  exact h v' w' h2 h3 h4

def RefText (w : World) (B g : Nat) (bs : List UInt8) (res : Option (List UInt8 × List UInt8)) (e : Ending) (w' : World) : Prop :=
  ∃ v t, e = .returned v ∧ t = (match res with | some x => x.1 | none => []) ∧ Sl w' w.heap.size 5 1 v t.length (t.map bv) ∧ StepTo w B g bs (res.map (·.2)) w'
theorem text_rdec (amis : Bool) (most : Int) (bs : List UInt8) (at_ : Nat) : ifGood amis (textRes most (bs.drop at_)) = match rdec amis bs at_ with | some (n, false, rest) => if 0 ≤ most ∧ (n : Int) ≤ most ∧ n ≤ rest.length then some (rest.take n, rest.drop n) else none | _ => none := by cases amis <;> rfl
theorem text_no {w w1 : World} {B g : Nat} {bs : List UInt8} {at_ : Nat} {amis : Bool} (hat : at_ ≤ bs.length) (h : RefAt w1 B g bs at_ amis) (F : Frm (fun k => k = g) w w1) (n : Nat) : RefText w B g bs none (.returned (.slice none 0 0)) ((w1.drewN n).setCell ⟨g, 2, none⟩ (.bool true)) :=
  ⟨_, [], rfl, rfl, Sl.nil _ _ _ _, step_amis hat (show RefAt (w1.drewN n) B g bs at_ amis from h.frm ((Frm.refl (fun _ => False) w1).drewN n) (fun f => f) (fun _ _ f => f)) (F.drewN n)⟩
theorem step_fresh {w w1 w2 : World} {B g : Nat} {bs : List UInt8} {rest : Option (List UInt8)} (h : StepTo w B g bs rest w1) (F : Fresh w1 w2) : StepTo w B g bs rest w2 := by
  obtain ⟨at', h1, h2, h3, h4⟩ := h
  exact ⟨at', h1, h2.frm F (fun f => f) (fun _ _ f => f), h3, h4.trans' F (fun _ _ f => f.elim)⟩
theorem ref_on {w1 : World} {B g : Nat} {bs : List UInt8} {at_ k : Nat} (h : RefAt w1 B g bs at_ false) : RefAt (w1.setCell ⟨g, 1, none⟩ (.int .i64 ((at_ : Int) + (k : Int)))) B g bs (at_ + k) false := by
  have hlt := h.lt
  obtain ⟨A, cap, h1, h2, h3, h4, h5⟩ := h
  have FS : Frm (fun k => k = g) w1 (w1.setCell ⟨g, 1, none⟩ (.int .i64 ((at_ : Int) + (k : Int)))) := (Frm.refl (fun k => k = g) w1).setCell (p := ⟨g, 1, none⟩) (fun _ => rfl) _
  refine ⟨A, cap, ?_, h2.frm (by omega) FS (fun p _ hp e => by omega), h3, h4, h5⟩
  have := h1.set 1 (.int .i64 ((at_ : Int) + (k : Int)))
  simpa using this
set_option maxRecDepth 100000 in
set_option maxHeartbeats 2000000 in
theorem rText_any (w : World) (B g : Nat) (bs : List UInt8) (at_ : Nat) (amis : Bool) (most : Int) (hmx : most ≤ 9223372036854775807) (hat : at_ ≤ bs.length) (hbl : bs.length ≤ 140737488355328) (h : RefAt w B g bs at_ amis) :
    Calls Try.prog 25 #[.pointer (some ⟨g, 0, none⟩), .int .i64 most] w fun e w' => RefText w B g bs (ifGood amis (textRes most (bs.drop at_))) e w' := by
  have H := Lib.hid h
  clear h
  go_enter Try.func25, Try.ntmps25
  go_wp2_with fail
  refine (next_any w B g bs at_ amis hat hbl H.out).mono ?_
  intro e w1 hn
  obtain ⟨n, m, k, q, rfl, rfl, hr⟩ := hn
  have HF1 : Hid (Frm (fun k => k = g) w (w.drewN q)) := Lib.hid ((Frm.refl _ w).drewN q)
  have hsz : w.heap.size = (w.drewN q).heap.size := rfl
  have h1 : RefAt (w.drewN q) B g bs at_ amis := H.out.frm ((Frm.refl (fun _ => False) w).drewN q) (fun f => f) (fun _ _ f => f)
  have HSZ := Lib.hid hsz
  clear hsz
  generalize w.drewN q = w1 at HF1 h1 HSZ
  have H1 := Lib.hid h1
  obtain ⟨A, cap, hb, hrd, hle, hmost, hBg⟩ := h1
  have hd0 : ∀ n, (w1.drewN n).cell? ⟨g, 0, none⟩ = some (.slice A bs.length cap) := fun _ => hb.cell 0
  have hd1 : ∀ n, (w1.drewN n).cell? ⟨g, 1, none⟩ = some (.int .i64 (at_ : Int)) := fun _ => hb.cell 1
  have hd2 : ∀ n, (w1.drewN n).cell? ⟨g, 2, none⟩ = some (.bool amis) := fun _ => hb.cell 2
  have hf1 : ∀ n, (w1.drewN n).frozen? ⟨g, 1, none⟩ = false := fun _ => hb.frozen 1
  have hf2 : ∀ n, (w1.drewN n).frozen? ⟨g, 2, none⟩ = false := fun _ => hb.frozen 2
  have HB := Lib.hid hb
  have HRD := Lib.hid hrd
  unfold maxLen at hmost
  clear hb hrd
  rcases hr with ⟨hr, rfl, rfl, rfl⟩ | ⟨rest, hr, hk, hkl, hrest⟩
  · have HR := Lib.hid hr
    clear hr
    go_wp2_with fail
    go_quiet (fail)
    go_wp2_with fail
    go_ret
    rw [text_rdec, HR.out]
    exact text_no hat H1.out HF1.out _
  · obtain rfl := rdec_good hr
    have e0 : ((k : Int) == 0) = false := by simp; omega
    have HR := Lib.hid hr
    have HRE := Lib.hid hrest
    have hrl : rest.length = bs.length - (at_ + k) := by rw [hrest, List.length_drop]
    clear hr hrest
    cases m with
    | true =>
      go_wp2_with fail
      go_quiet (fail)
      go_wp2_with fail
      go_ret
      rw [text_rdec, HR.out]
      exact text_no hat H1.out HF1.out _
    | false =>
      by_cases q1 : 0 ≤ most
      · obtain ⟨mm, rfl⟩ := Int.eq_ofNat_of_zero_le q1
        have d1 : decide ((mm : Int) < 0) = false := decide_eq_false (by omega)
        have hcv : IntKind.u64.wrap (mm : Int) = (mm : Int) := u64_small hmx
        by_cases q2 : n ≤ mm
        · have d2 : decide (mm < n) = false := by simp; omega
          have s1 : IntKind.i64.wrap ((bs.length : Int) - (at_ : Int)) = (bs.length : Int) - (at_ : Int) := IntWalk.i64_in _ (by omega)
          have s2 : IntKind.i64.wrap ((bs.length : Int) - (at_ : Int) - (k : Int)) = (rest.length : Int) := by rw [show (bs.length : Int) - (at_ : Int) - (k : Int) = (rest.length : Int) by omega]; exact IntWalk.i64_in _ (by omega)
          have s3 : IntKind.u64.wrap (rest.length : Int) = (rest.length : Int) := u64_small (by omega)
          by_cases q3 : n ≤ rest.length
          · have d3 : decide (rest.length < n) = false := by simp; omega
            have HC := Lib.hid (show 0 ≤ (mm : Int) ∧ (n : Int) ≤ (mm : Int) ∧ n ≤ rest.length from ⟨q1, by omega, q3⟩)
            go_wp2_with fail
            go_quiet (fail)
            rename_i nq
            have s4 : IntKind.i64.wrap ((at_ : Int) + (k : Int)) = (at_ : Int) + (k : Int) := IntWalk.i64_in _ (by omega)
            have s5 : IntKind.i64.wrap (n : Int) = (n : Int) := IntWalk.i64_in _ (by omega)
            have s6 : IntKind.i64.wrap ((at_ : Int) + (k : Int) + (n : Int)) = (at_ : Int) + (k : Int) + (n : Int) := IntWalk.i64_in _ (by omega)
            clear s1 s2 s3 hcv d1 d2 d3
            go_wp2_with fail
            have hj : at_ + k + n ≤ bs.length := by omega
            have h2 : StepTo w B g bs (some (bs.drop (at_ + (k + n)))) ((w1.drewN nq).setCell ⟨g, 1, none⟩ (.int .i64 ((at_ : Int) + (k : Int) + (n : Int)))) ∧ RefAt ((w1.drewN nq).setCell ⟨g, 1, none⟩ (.int .i64 ((at_ : Int) + (k : Int) + (n : Int)))) B g bs (at_ + (k + n)) false ∧ w1.heap.size = ((w1.drewN nq).setCell ⟨g, 1, none⟩ (.int .i64 ((at_ : Int) + (k : Int) + (n : Int)))).heap.size := by
              rw [show (at_ : Int) + (k : Int) + (n : Int) = (at_ : Int) + ((k + n : Nat) : Int) by omega]
              have hh : RefAt (w1.drewN nq) B g bs at_ false := H1.out.frm ((Frm.refl (fun _ => False) w1).drewN nq) (fun f => f) (fun _ _ f => f)
              exact ⟨step_on (by omega) rfl hh (HF1.out.drewN nq), ref_on hh, by simp⟩
            generalize (w1.drewN nq).setCell ⟨g, 1, none⟩ (.int .i64 ((at_ : Int) + (k : Int) + (n : Int))) = w2 at h2
            obtain ⟨hst, h3, hsz⟩ := h2
            have HST := Lib.hid hst
            have HSZ2 := Lib.hid (HSZ.out.trans hsz)
            clear hst hsz hd0 hd1 hd2 hf1 hf2
            have hg3 := h3.lt
            obtain ⟨A3, cap3, hb3, hr3, hle3, hm3, hB3⟩ := h3
            have HR3 := Lib.hid hr3
            have CELL : Hid (∀ w', Fresh w2 w' → w'.cell? ⟨g, 0, none⟩ = some (.slice A3 bs.length cap3) ∧ w'.cell? ⟨g, 1, none⟩ = some (.int .i64 ((at_ : Int) + (k : Int) + (n : Int)))) := Lib.hid (fun w' F => by
              have hb := hb3.frm F (fun f => f)
              refine ⟨hb.cell 0, ?_⟩
              rw [show (at_ : Int) + (k : Int) + (n : Int) = ((at_ + (k + n) : Nat) : Int) by omega]
              exact hb.cell 1)
            have c0 := (CELL.out w2 (Frm.refl _ _)).1
            have c1 := (CELL.out w2 (Frm.refl _ _)).2
            clear hb3 hr3
            have k1 : (0 : Int) ≤ (at_ : Int) + (k : Int) := by omega
            have k2 : ((at_ : Int) + (k : Int)).toNat = at_ + k := by omega
            have k3 : (0 : Int) ≤ (at_ : Int) + (k : Int) + (n : Int) := by omega
            have k4 : ((at_ : Int) + (k : Int) + (n : Int)).toNat = at_ + k + n := by omega
            have k5 : at_ + k + n ≤ cap3 := by omega
            have k6 : (at_ : Int) + (k : Int) ≤ (at_ : Int) + (k : Int) + (n : Int) := by omega
            have k7 : at_ + k + n - (at_ + k) = n := by omega
            have k8 : (at_ : Int) + (k : Int) + (n : Int) ≤ (cap3 : Int) := by unfold maxLen at hm3; omega
            obtain ⟨i0, hi, hz0, hz1, hz2⟩ := info_parts info_u8
            have S0 : Hid (Sl (w2.alloc (.cells #[] 5)) w2.heap.size 5 1 (.slice (some ⟨w2.heap.size, 0, none⟩) 0 0) 0 []) := Lib.hid (sl_new w2 _ [] _ (Nat.le_refl _) (by simp [maxLen]))
            have htl : ((rest.take n).map bv).length = n * 1 := by rw [List.length_map, List.length_take]; omega
            have R0 : Hid (Rd (w2.alloc (.cells #[] 5)) B (if cap3 = at_ + k then A3 else Option.map (fun x => x.add (at_ + k)) A3) ((rest.take n).map bv)) := Lib.hid (by
              have h := ((HR3.out.alloc (by omega) (.cells #[] 5)).rest (n := at_ + k) (cap := cap3) (by simpa using hle3)).take n
              rwa [← List.map_drop, ← List.map_take, ← HRE.out] at h)
            clear hrl
            go_region_held3 (fun w' => w'.cell? ⟨g, 0, none⟩ = some (.slice A3 bs.length cap3) ∧ w'.cell? ⟨g, 1, none⟩ = some (.int .i64 ((at_ : Int) + (k : Int) + (n : Int))))
              (first | exact CELL.out _ ((Frm.refl _ w2).drew) | exact CELL.out _ (((Frm.refl _ w2).alloc _).drew) | exact CELL.out _ (((Frm.refl _ w2).drew).alloc _) | exact CELL.out _ HF4.out)
              (first
                | (refine step_append_sl (by rfl) (.tmp 63) (.tmp 73) 23 (by rfl) w2.heap.size 5 i0 _ 1 1 Try.underlying23 hi hz0 hz1 hz2 rfl (by omega) (.slice (some ⟨w2.heap.size, 0, none⟩) 0 0) 0 [] (by rfl) S0.out B (if cap3 = at_ + k then A3 else Option.map (fun x => x.add (at_ + k)) A3) n (cap3 - (at_ + k)) ((rest.take n).map bv) (by rfl) htl R0.out (bv_one _) (by unfold maxLen; omega) (by omega) (by simp) ?_; intro v4 w4 hs4 hf4 ha4; have HF4 : Hid (Fresh w2 w4) := Lib.hid ((((Frm.refl _ w2).alloc _).drew).trans' hf4 (fun i hi hk => by have := own_at hk; omega)); have HS4 := Lib.hid hs4; clear hs4 hf4 ha4))
            have hs4 := HS4.out
            rw [Nat.zero_add, List.nil_append] at hs4
            have HS5 := Lib.hid hs4
            clear hs4 c0 c1 R0
            generalize (if cap3 = at_ + k then A3 else Option.map (fun x => x.add (at_ + k)) A3) = A5
            go_wp2_with fail
            go_ret
            rw [text_rdec, HR.out]
            simp only [if_pos HC.out]
            refine ⟨v4, rest.take n, rfl, rfl, ?_, ?_⟩
            · have h := HS5.out.less (Nat.le_of_eq HSZ2.out)
              rwa [show (rest.take n).length = n from by simpa using htl]
            · rw [show (some (rest.take n, rest.drop n)).map (·.2) = some (bs.drop (at_ + (k + n))) from by rw [HRE.out, List.drop_drop]; simp [Nat.add_assoc]]
              exact step_fresh HST.out HF4.out
          · have d3 : decide (rest.length < n) = true := by simp; omega
            have HC := Lib.hid (show ¬ (0 ≤ (mm : Int) ∧ (n : Int) ≤ (mm : Int) ∧ n ≤ rest.length) from fun h => q3 h.2.2)
            go_wp2_with fail
            go_quiet (fail)
            go_wp2_with fail
            go_ret
            rw [text_rdec, HR.out]
            simp only [if_neg HC.out]
            exact text_no hat H1.out HF1.out _
        · have d2 : decide (mm < n) = true := by simp; omega
          have HC := Lib.hid (show ¬ (0 ≤ (mm : Int) ∧ (n : Int) ≤ (mm : Int) ∧ n ≤ rest.length) from fun h => q2 (by have := h.2.1; omega))
          go_wp2_with fail
          go_quiet (fail)
          go_wp2_with fail
          go_ret
          rw [text_rdec, HR.out]
          simp only [if_neg HC.out]
          exact text_no hat H1.out HF1.out _
      · have d1 : decide (most < 0) = true := by simp; omega
        have HC := Lib.hid (show ¬ (0 ≤ most ∧ (n : Int) ≤ most ∧ n ≤ rest.length) from fun h => q1 h.1)
        go_wp2_with fail
        go_quiet (fail)
        go_wp2_with fail
        go_ret
        rw [text_rdec, HR.out]
        simp only [if_neg HC.out]
        exact text_no hat H1.out HF1.out _
end Go.Proofs.Ytbngokalmfodiaa

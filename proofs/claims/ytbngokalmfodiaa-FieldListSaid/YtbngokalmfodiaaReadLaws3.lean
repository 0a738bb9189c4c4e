/- The law FieldBack walked. -/
import Derived.Test.YtbngokalmfodiaaReadLaws2
namespace Go.Proofs.Ytbngokalmfodiaa
open Go.RowKit ReadM

theorem numPost_some {w : World} {B gr : Nat} {bs : List UInt8} {most n : Nat} {rest : List UInt8} {e : Ending} {w' : World} (h : NumPost w B gr bs (ifGood false (numRes most bs)) e w') (hr : numRes most bs = some (n, rest)) :
    e = .returned (.int .u64 (n : Int)) ∧ RdrAt w' B gr rest false ∧ Frm (fun k => k = gr) w w' := by
  rw [hr] at h
  exact h
theorem intPost_some {w : World} {B gr : Nat} {bs : List UInt8} {low high x : Int} {rest : List UInt8} {e : Ending} {w' : World} (h : IntPost w B gr bs (ifGood false (intRes low high bs)) e w') (hr : intRes low high bs = some (x, rest)) :
    e = .returned (.int .i64 x) ∧ RdrAt w' B gr rest false ∧ Frm (fun k => k = gr) w w' := by
  rw [hr] at h
  exact h
theorem textPost_some {w : World} {B gr : Nat} {bs : List UInt8} {most : Int} {t rest : List UInt8} {e : Ending} {w' : World} (h : TextPost w B gr bs (ifGood false (textRes most bs)) e w') (hr : textRes most bs = some (t, rest)) :
    ∃ A cap, e = .returned (.slice A t.length cap) ∧ Rd w' w'.heap.size A (t.map bv) ∧ RdrAt w' B gr rest false ∧ Frm (fun k => k = gr) w w' := by
  rw [hr] at h
  obtain ⟨v, t', rfl, ht, hs, h1, h2⟩ := h
  have ht' : t' = t := ht
  subst ht'
  obtain ⟨A, cap, rfl, _⟩ := hs.shape
  exact ⟨A, cap, rfl, hs.rd, h1, h2⟩
theorem rd_apart {w : World} {B B' gr : Nat} {A : Option Addr} {bs bs' : List UInt8} {bad : Bool} (h : Rd w B A (bs.map bv)) (h' : RdrAt w B' gr bs' bad) (hb : bs ≠ []) : ∀ p, A = some p → p.block ≠ gr := by
  intro p hp e
  obtain ⟨A', cap', hblk, _⟩ := h'
  obtain ⟨b, o, hA, _, hc⟩ := h.at_ (k := 0) (by cases bs with | nil => exact absurd rfl hb | cons _ _ => simp)
  rw [hp] at hA
  injection hA with hA
  subst hA
  simp only at e
  subst e
  rw [hblk.cell] at hc
  match o, hc with
  | 0, hc => simp [bv] at hc
  | 1, hc => simp [bv] at hc
  | o + 2, hc => simp at hc
theorem RdrAt.other {w w' : World} {B B' g gr : Nat} {bs bs' : List UInt8} {bad bad' : Bool} (h : RdrAt w B g bs bad) (h' : RdrAt w B' gr bs' bad') (hne : g ≠ gr) (hf : Frm (fun k => k = gr) w w') : RdrAt w' B g bs bad := by
  obtain ⟨A, cap, h1, h2, h3, h4, h5⟩ := h
  refine ⟨A, cap, h1.frm hf hne, ?_, h3, h4, h5⟩
  by_cases hb : bs = []
  · subst hb; exact Rd.nil _ _ _
  · exact h2.frm (by have := h1.lt; omega) hf (fun p hp _ e => rd_apart h2 h' hb p hp e)
theorem rdr_keep {w w' : World} {B g : Nat} {bs : List UInt8} {bad : Bool} {S : Nat → Prop} (h : RdrAt w B g bs bad) (hf : Frm S w w') (hg : ¬ S g) (hS : ∀ k, k < B → ¬ S k) : RdrAt w' B g bs bad := h.frm hf hg hS
theorem fields_len (n : Nat) (hn : n < 18446744073709551616) (x : Int) (h1 : -9223372036854775808 ≤ x) (h2 : x ≤ 9223372036854775807) (bs : List UInt8) (hb : bs.length < 18446744073709551616) :
    (FieldM.num n).length ≤ 9 ∧ 1 ≤ (FieldM.num n).length ∧ (FieldM.int x).length ≤ 9 ∧ 1 ≤ (FieldM.int x).length ∧ bs.length + 1 ≤ (FieldM.text bs).length ∧ (FieldM.text bs).length ≤ bs.length + 9 := by
  rw [FieldM.num_length, FieldM.int_length, FieldM.text_length]
  have a := FieldM.wid_le hn
  have b := FieldM.wid_le (n := x.natAbs) (by omega)
  have c := FieldM.wid_le hb
  omega
set_option maxRecDepth 100000 in
set_option maxHeartbeats 2000000 in
theorem back_walk (w : World) (n : Int) (hn : (Lit.int .u64 n).wf = true) (x : Int) (hx : (Lit.int .i64 x).wf = true) (A : Option Addr) (cap : Nat) (bs : List UInt8) (hb : IsBytes w A cap bs) (hr : cap ≤ 140737488351232) :
    Calls Try.prog 12 #[.int .u64 n, .int .i64 x, .slice A bs.length cap] w fun e w' => e = .returned (.bool true) ∧ Below w.heap.size w w' := by
  obtain ⟨n, rfl, hn'⟩ := wf_u64 hn
  obtain ⟨hx1, hx2⟩ := wf_i64 hx
  obtain ⟨i0, hi, hz0, hz1, hz2⟩ := info_parts info_u8
  have HB := Lib.hid hb.rd
  have hle := hb.le
  have hmost := hb.most
  have hbl : bs.length ≤ 140737488351232 := by omega
  have HLEN := Lib.hid (fields_len n hn' x hx1 hx2 bs (by omega))
  have HN := Lib.hid hn'
  clear hb hn hx hn'
  go_enter Try.func12, Try.ntmps12
  go_wp2_with fail
  have S0 := Lib.hid (show Sl (w.alloc (.cells #[] 5)) w.heap.size 5 1 (.slice (some ⟨w.heap.size, 0, none⟩) 0 0) 0 [] from sl_new w _ [] _ (Nat.le_refl _) (by simp [maxLen]))
  have HF0 : Hid (Fresh w (w.alloc (.cells #[] 5))) := Lib.hid ((Frm.refl _ w).alloc _)
  generalize w.alloc (.cells #[] 5) = w0 at S0 HF0
  refine (number_any n HN.out w0).mono ?_
  rintro e w1 ⟨v1, rfl, hs1, F1⟩
  obtain ⟨A1, c1, rfl, _⟩ := hs1.shape
  have HS1 := Lib.hid hs1
  have S1 := Lib.hid (S0.out.fresh F1)
  have HF1 := Lib.hid (HF0.out.trans F1)
  have hsz1 := HF1.out.size
  clear hs1 F1
  have hln := HLEN.out
  have hl1 := hln.1
  have hl2 := hln.2.1
  have hl3 := hln.2.2.1
  have hl4 := hln.2.2.2.1
  have hl5 := hln.2.2.2.2.1
  have hl6 := hln.2.2.2.2.2
  clear hln
  go_wp2_with (first
    | (at_builtin
       refine wpList_append_sl _ rfl (.tmp 13) (.tmp 15) _ rfl w.heap.size 5 i0 _ 1 1 Try.underlying23 hi hz0 hz1 hz2 rfl (by omega) _ _ _ rfl S1.out _ _ _ _ _ rfl (by simp) HS1.out.rd (bv_one _) (by unfold maxLen; omega) (by omega) hsz1 ?_
       intro v2 w2 hs2 hf2 ha2
       obtain ⟨A2, c2, rfl, _⟩ := hs2.shape
       have HF2 : Hid (Fresh w w2) := Lib.hid (HF1.out.trans' hf2 (fun i hi hk => by have := S1.out.lt i hk; omega))
       rw [Nat.zero_add, List.nil_append] at hs2
       have S2 := Lib.hid hs2
       clear hs2 hf2 ha2 S1 HS1))
  refine (int_any x hx1 hx2 w2).mono ?_
  rintro e w3 ⟨v3, rfl, hs3, F3⟩
  obtain ⟨A3, c3, rfl, _⟩ := hs3.shape
  have HS3 := Lib.hid hs3
  have S3 := Lib.hid (S2.out.fresh F3)
  have HF3 := Lib.hid (HF2.out.trans F3)
  have hsz3 := HF3.out.size
  clear hs3 F3
  go_wp2_with (first
    | (at_builtin
       refine wpList_append_sl _ rfl (.tmp 16) (.tmp 18) _ rfl w.heap.size 5 i0 _ 1 1 Try.underlying23 hi hz0 hz1 hz2 rfl (by omega) _ _ _ rfl S3.out _ _ _ _ _ rfl (by simp) HS3.out.rd (bv_one _) (by unfold maxLen; omega) (by omega) hsz3 ?_
       intro v4 w4 hs4 hf4 ha4
       obtain ⟨A4, c4, rfl, _⟩ := hs4.shape
       have HF4 : Hid (Fresh w w4) := Lib.hid (HF3.out.trans' hf4 (fun i hi hk => by have := S3.out.lt i hk; omega))
       have S4 := Lib.hid hs4
       clear hs4 hf4 ha4 S3 HS3 S2))
  refine (text_any A cap bs w4 ((HB.out.fresh (Nat.le_refl _) HF4.out).more HF4.out.size) hbl).mono ?_
  rintro e w5 ⟨v5, rfl, hs5, F5⟩
  obtain ⟨A5, c5, rfl, _⟩ := hs5.shape
  have HS5 := Lib.hid hs5
  have S5 := Lib.hid (S4.out.fresh F5)
  have HF5 := Lib.hid (HF4.out.trans F5)
  have hsz5 := HF5.out.size
  clear hs5 F5
  obtain ⟨c, hc⟩ : ∃ c, c = FieldM.num n ++ (FieldM.int x ++ FieldM.text bs) := ⟨_, rfl⟩
  have HC := Lib.hid hc
  have HCL := Lib.hid (show (FieldM.num n).length + (FieldM.int x).length + (FieldM.text bs).length = c.length from by rw [hc]; simp [Nat.add_assoc])
  have HCM := Lib.hid (show (FieldM.num n).map bv ++ (FieldM.int x).map bv ++ (FieldM.text bs).map bv = c.map bv from by rw [hc]; simp)
  have hcl1 : 3 ≤ c.length := by rw [← HCL.out]; omega
  have hcl2 : c.length ≤ 140737488351260 := by rw [← HCL.out]; omega
  clear hc
  go_wp2_with (first
    | (at_builtin
       refine wpList_append_sl _ rfl (.tmp 19) (.tmp 21) _ rfl w.heap.size 5 i0 _ 1 1 Try.underlying23 hi hz0 hz1 hz2 rfl (by omega) _ _ _ rfl S5.out _ _ _ _ _ rfl (by simp) HS5.out.rd (bv_one _) (by unfold maxLen; omega) (by omega) hsz5 ?_
       intro v6 w6 hs6 hf6 ha6
       rw [HCL.out, HCM.out] at hs6
       obtain ⟨A6, c6, rfl, _⟩ := hs6.shape
       have HF6 : Hid (Fresh w w6) := Lib.hid (HF5.out.trans' hf6 (fun i hi hk => by have := S5.out.lt i hk; omega))
       have hsz6 := HF6.out.size
       have S6 := Lib.hid hs6
       have S7 := Lib.hid (show Sl (w6.alloc (.cells #[] 5)) w6.heap.size 5 1 (.slice (some ⟨w6.heap.size, 0, none⟩) 0 0) 0 [] from sl_new w6 _ [] _ (Nat.le_refl _) (by simp [maxLen]))
       clear hs6 hf6 ha6 S5 HS5 S4)
    | (at_builtin
       refine wpList_append_sl _ rfl (.tmp 23) (.tmp 24) _ rfl w6.heap.size 5 i0 _ 1 1 Try.underlying23 hi hz0 hz1 hz2 rfl (by omega) _ _ _ rfl S7.out _ _ _ _ _ rfl (by simp) (S6.out.alloc _).rd (bv_one _) (by unfold maxLen; omega) (by omega) (by simp) ?_
       intro v8 w8 hs8 hf8 ha8
       rw [Nat.zero_add, List.nil_append] at hs8
       obtain ⟨A8, c8, rfl, _⟩ := hs8.shape
       have HF8 : Hid (Fresh w6 w8) := Lib.hid (((Frm.refl (fun _ => False) w6).alloc _).trans' hf8 (fun i hi hk => by have := own_at hk; omega))
       have hsz8 := HF8.out.size
       have S8 := Lib.hid hs8
       have HR9 : Hid (Rd (w8.alloc (.cells #[.int .u8 9, .int .u8 9] 5)) (w8.heap.size + 1) (some ⟨w8.heap.size, 0, none⟩) ([(9 : UInt8), 9].map bv)) := Lib.hid (rd_new w8 ([(9 : UInt8), 9].map bv) 5)
       clear hs8 hf8 ha8 S7)
    | (at_builtin
       refine wpList_append_sl _ rfl (.tmp 25) (.tmp 26) _ rfl w6.heap.size 5 i0 _ 1 1 Try.underlying23 hi hz0 hz1 hz2 rfl (by omega) _ _ _ rfl (S8.out.alloc _) _ _ _ _ _ rfl (by simp) HR9.out (bv_one _) (by unfold maxLen; omega) (by omega) (by simp; omega) ?_
       intro v9 w9 hs9 hf9 ha9
       obtain ⟨A9, c9, rfl, _⟩ := hs9.shape
       have HF9 : Hid (Fresh w6 w9) := Lib.hid ((HF8.out.alloc _).trans' hf9 (fun i hi hk => by have := S8.out.lt i hk; omega))
       have S9 := Lib.hid hs9
       clear hs9 hf9 ha9 S8 HR9))
  have HD := Lib.hid (show FieldM.num n ++ (FieldM.int x ++ (FieldM.text bs ++ [9, 9])) = c ++ [9, 9] from by rw [HC.out]; simp)
  have HRD9 : Hid (Rd w9 w9.heap.size A9 ((c ++ [9, 9]).map bv)) := Lib.hid (by have := S9.out.rd; rwa [← List.map_append] at this)
  have hc9 : c.length + 2 ≤ c9 ∧ c9 ≤ maxLen := by
    obtain ⟨_, _, hv, h1, h2, _⟩ := S9.out.shape
    injection hv with _ _ h3
    subst h3
    exact ⟨h1, h2⟩
  have HN9 := Lib.hid (new_any w9 w9.heap.size A9 c9 (c ++ [9, 9]) HRD9.out (Nat.le_refl _) (by rw [List.length_append]; simp; omega) (by rw [List.length_append]; exact hc9.1) hc9.2)
  have HC9 : Hid (c.length + 2 = (c ++ [(9 : UInt8), 9]).length) := Lib.hid (by simp)
  rw [HC9.out]
  refine HN9.out.mono ?_
  rintro e w10 ⟨gr, rfl, h10, F10, hg10⟩
  have HR10 := Lib.hid h10
  have HF10 := Lib.hid (HF9.out.trans F10)
  have S10 : Hid (Rd w10 w10.heap.size A6 (c.map bv)) := Lib.hid ((S6.out.rd.fresh (Nat.le_refl _) HF10.out).more HF10.out.size)
  have hc6 : c.length ≤ c6 ∧ c6 ≤ maxLen := by
    obtain ⟨_, _, hv, h1, h2, _⟩ := S6.out.shape
    injection hv with _ _ h3
    subst h3
    exact ⟨h1, h2⟩
  clear h10 F10 HN9 HRD9 hc9
  go_wp2_with fail
  refine (new_any w10 w10.heap.size A6 c6 c S10.out (Nat.le_refl _) (by omega) hc6.1 hc6.2).mono ?_
  rintro e w11 ⟨gs, rfl, h11, F11, hg11⟩
  have HR11 := Lib.hid (h11)
  have hgr : gr < w10.heap.size := by obtain ⟨_, _, hb, _⟩ := HR10.out; exact hb.lt
  have HRr := Lib.hid (HR10.out.frm F11 (fun f => f) (fun _ _ f => f))
  have HF11 := Lib.hid (HF6.out.trans (HF10.out.trans F11))
  have hb6 : w6.heap.size ≤ gr := by have := HF9.out.size; omega
  have hb66 : w.heap.size ≤ w6.heap.size := HF6.out.size
  clear h11 F11 HR10 S10
  have hne : gr ≠ gs := by omega
  go_wp2_with fail
  refine (readNumber_any w11 gr gr (c ++ [9, 9]) false n HN.out HRr.out).mono ?_
  intro e w12 h12
  obtain ⟨rfl, h12', F12⟩ := numPost_some h12 (by rw [← HD.out]; exact numRes_num HN.out (Nat.le_refl _) _)
  have HR12 := Lib.hid h12'
  have HS12 := Lib.hid (HR11.out.other HRr.out (fun h => hne h.symm) F12)
  have HF12 := Lib.hid (show Fresh w w12 from HF11.out.trans' F12 (fun i hi e => by omega))
  clear h12 h12' F12 HRr HR11
  go_wp2_with fail
  refine (readInt_any w12 gr gr _ false x x HR12.out).mono ?_
  intro e w13 h13
  obtain ⟨rfl, h13', F13⟩ := intPost_some h13 (intRes_int hx1 hx2 (Int.le_refl _) (Int.le_refl _) _)
  have HR13 := Lib.hid h13'
  have HS13 := Lib.hid (HS12.out.other HR12.out (fun h => hne h.symm) F13)
  have HF13 := Lib.hid (show Fresh w w13 from HF12.out.trans' F13 (fun i hi e => by omega))
  clear h13 h13' F13 HR12 HS12
  go_wp2_with fail
  refine (readText_any w13 gr gr _ false _ (by omega) (by simp; omega) HR13.out).mono ?_
  intro e w14 h14
  obtain ⟨A14, c14, rfl, hr14, h14', F14⟩ := textPost_some h14 (textRes_text (by omega) (Int.le_refl _) _)
  have HR14 := Lib.hid h14'
  have HT14 := Lib.hid hr14
  have HS14 := Lib.hid (HS13.out.other HR13.out (fun h => hne h.symm) F14)
  have HF14 := Lib.hid (show Fresh w w14 from HF13.out.trans' F14 (fun i hi e => by omega))
  clear h14 h14' F14 HR13 HS13 hr14
  go_wp2_with fail
  refine (readNumber_any w14 gs gs c false n HN.out HS14.out).mono ?_
  intro e w15 h15
  obtain ⟨rfl, h15', F15⟩ := numPost_some h15 (by rw [HC.out]; exact numRes_num HN.out (Nat.le_refl _) _)
  have HS15 := Lib.hid h15'
  have HR15 := Lib.hid (HR14.out.other HS14.out hne F15)
  have HT15 := Lib.hid (show Rd w15 w15.heap.size A14 (bs.map bv) from by
    by_cases hb : bs = []
    · subst hb; exact Rd.nil _ _ _
    · exact (HT14.out.frm (Nat.le_refl _) F15 (fun p hp _ e => rd_apart HT14.out HS14.out hb p hp e)).more F15.size)
  have HF15 := Lib.hid (show Fresh w w15 from HF14.out.trans' F15 (fun i hi e => by omega))
  clear h15 h15' F15 HR14 HS14 HT14
  go_wp2_with fail
  refine (readInt_any w15 gs gs _ false x x HS15.out).mono ?_
  intro e w16 h16
  obtain ⟨rfl, h16', F16⟩ := intPost_some h16 (intRes_int hx1 hx2 (Int.le_refl _) (Int.le_refl _) _)
  have HS16 := Lib.hid h16'
  have HR16 := Lib.hid (HR15.out.other HS15.out hne F16)
  have HT16 := Lib.hid (show Rd w16 w16.heap.size A14 (bs.map bv) from by
    by_cases hb : bs = []
    · subst hb; exact Rd.nil _ _ _
    · exact (HT15.out.frm (Nat.le_refl _) F16 (fun p hp _ e => rd_apart HT15.out HS15.out hb p hp e)).more F16.size)
  have HF16 := Lib.hid (show Fresh w w16 from HF15.out.trans' F16 (fun i hi e => by omega))
  clear h16 h16' F16 HR15 HS15 HT15
  go_wp2_with fail
  refine (readText_any w16 gs gs _ false _ (by omega) (by omega) HS16.out).mono ?_
  intro e w17 h17
  obtain ⟨A17, c17, rfl, _, h17', F17⟩ := textPost_some h17 (by have := textRes_text (b := bs) (most := (bs.length : Int)) (by omega) (Int.le_refl _) []; rwa [List.append_nil] at this)
  have HS17 := Lib.hid h17'
  have HR17 := Lib.hid (HR16.out.other HS16.out hne F17)
  have hT17 : Rd w17 w17.heap.size A14 (bs.map bv) := by
    by_cases hb : bs = []
    · subst hb; exact Rd.nil _ _ _
    · exact (HT16.out.frm (Nat.le_refl _) F17 (fun p hp _ e => rd_apart HT16.out HS16.out hb p hp e)).more F17.size
  have hF17 : Fresh w w17 := HF16.out.trans' F17 (fun i hi e => by omega)
  have HF17 := Lib.hid hF17
  have q1 : (convert 23 9 (.slice A14 bs.length c14)).run Try.prog w17 = .ok (.string (str bs)) w17 := conv_u c14 hT17 rfl
  have q2 : (convert 23 9 (.slice A bs.length cap)).run Try.prog w17 = .ok (.string (str bs)) w17 := conv_u cap ((HB.out.fresh (Nat.le_refl _) hF17).more hF17.size) rfl
  clear h17 h17' F17 HR16 HS16 HT16 hT17 hF17
  go_wp2_with fail
  refine (bad_any w17 gr gr _ false HR17.out).mono ?_
  rintro e w18 ⟨rfl, rfl⟩
  go_wp2_with fail
  refine (whole_any w17 gr gr _ false HR17.out).mono ?_
  rintro e w18 ⟨rfl, rfl⟩
  rw [show wholeB [9, 9] false = false from rfl]
  go_wp2_with fail
  refine (whole_any w17 gs gs _ false HS17.out).mono ?_
  rintro e w18 ⟨rfl, rfl⟩
  rw [show wholeB [] false = true from rfl]
  go_wp2_with fail
  go_ret
  exact ⟨by simp, HF17.out.below⟩
end Go.Proofs.Ytbngokalmfodiaa

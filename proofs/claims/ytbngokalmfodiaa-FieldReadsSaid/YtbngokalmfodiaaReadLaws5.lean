/- The law FieldReads walked. -/
import Derived.Test.YtbngokalmfodiaaReadLaws2
import Derived.Test.YtbngokalmfodiaaRefRead4
import Derived.Deep.RegionWith
namespace Go.Proofs.Ytbngokalmfodiaa
open Go.RowKit ReadM

/-- both readers side by side -/
structure SimAt (w0 w : World) (g g2 : Nat) (b bs' : List UInt8) (at_ : Nat) (bad : Bool) : Prop where
  lim : bs'.length ≤ 140737488355328
  le : at_ ≤ b.length
  rdr : RdrAt w g g bs' bad
  ref : RefAt w w0.heap.size g2 b at_ bad
  same : bad = false → bs' = b.drop at_
  hg : g < g2
  h0 : w0.heap.size ≤ g
  fr : Fresh w0 w
def restOf {α : Type} (bs : List UInt8) (res : Option (α × List UInt8)) : List UInt8 := match res with | some x => x.2 | none => bs
theorem same_res {α : Type} {b bs' : List UInt8} {at_ : Nat} {bad : Bool} (h : bad = false → bs' = b.drop at_) (f : List UInt8 → Option α) : ifGood bad (f (b.drop at_)) = ifGood bad (f bs') := by
  cases bad with
  | true => rfl
  | false => rw [h rfl]
theorem SimAt.mid {w0 w w1 : World} {g g2 : Nat} {b bs' : List UInt8} {at_ : Nat} {bad : Bool} (S : SimAt w0 w g g2 b bs' at_ bad) (F : Frm (fun k => k = g) w w1) : RefAt w1 w0.heap.size g2 b at_ bad ∧ Fresh w0 w1 :=
  ⟨S.ref.frm F (fun e => by have := S.hg; omega) (fun k hk e => by have := S.h0; omega), S.fr.trans' F (fun i hi h => by have := S.h0; omega)⟩
theorem SimAt.next {α : Type} {w0 w w1 w2 : World} {g g2 : Nat} {b bs' : List UInt8} {at_ : Nat} {bad : Bool} (hbl : b.length ≤ 140737488355328) (S : SimAt w0 w g g2 b bs' at_ bad) (res : Option (α × List UInt8)) (h1 : RdrAt w1 g g (restOf bs' res) res.isNone) (F1 : Frm (fun k => k = g) w w1)
    (h2 : StepTo w1 w0.heap.size g2 b (res.map (·.2)) w2) : ∃ bs'' at'' bad'', SimAt w0 w2 g g2 b bs'' at'' bad'' := by
  obtain ⟨at', hle, hr, hx, F2⟩ := h2
  have hgg := S.hg
  have hg0 := S.h0
  refine ⟨restOf bs' res, at', res.isNone, ?_, hle, h1.frm F2 (fun e => by omega) (fun k hk e => by omega), ?_, ?_, hgg, hg0, (S.mid F1).2.trans' F2 (fun i hi h => by omega)⟩
  · cases res with
    | none => exact S.lim
    | some x => rw [show restOf bs' (some x) = x.2 from rfl, hx x.2 rfl, List.length_drop]; omega
  · cases res <;> exact hr
  · intro h
    cases res with
    | none => cases h
    | some x => exact hx x.2 rfl
def valN (res : Option (Nat × List UInt8)) : Nat := match res with | some x => x.1 | none => 0
def valI (res : Option (Int × List UInt8)) : Int := match res with | some x => x.1 | none => 0
def valT (res : Option (List UInt8 × List UInt8)) : List UInt8 := match res with | some x => x.1 | none => []
theorem num_parts {w : World} {B gr : Nat} {bs : List UInt8} {res : Option (Nat × List UInt8)} {e : Ending} {w' : World} (h : NumPost w B gr bs res e w') : e = .returned (.int .u64 ((valN res : Nat) : Int)) ∧ RdrAt w' B gr (restOf bs res) res.isNone ∧ Frm (fun k => k = gr) w w' := by cases res <;> exact h
theorem int_parts {w : World} {B gr : Nat} {bs : List UInt8} {res : Option (Int × List UInt8)} {e : Ending} {w' : World} (h : IntPost w B gr bs res e w') : e = .returned (.int .i64 (valI res)) ∧ RdrAt w' B gr (restOf bs res) res.isNone ∧ Frm (fun k => k = gr) w w' := by cases res <;> exact h
theorem text_parts {w : World} {B gr : Nat} {bs : List UInt8} {res : Option (List UInt8 × List UInt8)} {e : Ending} {w' : World} (h : TextPost w B gr bs res e w') : ∃ A cap, e = .returned (.slice A (valT res).length cap) ∧ Sl w' w.heap.size 5 1 (.slice A (valT res).length cap) (valT res).length ((valT res).map bv) ∧ RdrAt w' B gr (restOf bs res) res.isNone ∧ Frm (fun k => k = gr) w w' := by
  obtain ⟨v, t, rfl, ht, hs, h1, h2⟩ := h
  have ht' : t = valT res := by rw [ht]; cases res <;> rfl
  subst ht'
  obtain ⟨A, cap, rfl, _⟩ := hs.shape
  exact ⟨A, cap, rfl, hs, by cases res <;> exact h1, h2⟩
theorem rnum_parts {w : World} {B g : Nat} {bs : List UInt8} {res : Option (Nat × List UInt8)} {e : Ending} {w' : World} (h : RefNum w B g bs res e w') : e = .returned (.int .u64 ((valN res : Nat) : Int)) ∧ StepTo w B g bs (res.map (·.2)) w' := by cases res <;> exact h
theorem rint_parts {w : World} {B g : Nat} {bs : List UInt8} {res : Option (Int × List UInt8)} {e : Ending} {w' : World} (h : RefInt w B g bs res e w') : e = .returned (.int .i64 (valI res)) ∧ StepTo w B g bs (res.map (·.2)) w' := by cases res <;> exact h
theorem rtext_parts {w : World} {B g : Nat} {bs : List UInt8} {res : Option (List UInt8 × List UInt8)} {e : Ending} {w' : World} (h : RefText w B g bs res e w') : ∃ A cap, e = .returned (.slice A (valT res).length cap) ∧ Rd w' w'.heap.size A ((valT res).map bv) ∧ StepTo w B g bs (res.map (·.2)) w' := by
  obtain ⟨v, t, rfl, ht, hs, h1⟩ := h
  have ht' : t = valT res := by rw [ht]; cases res <;> rfl
  subst ht'
  obtain ⟨A, cap, rfl, _⟩ := hs.shape
  exact ⟨A, cap, rfl, hs.rd, h1⟩
theorem whole_same {w0 w : World} {g g2 : Nat} {b bs' : List UInt8} {at_ : Nat} {bad : Bool} (S : SimAt w0 w g g2 b bs' at_ bad) : refWholeB b at_ bad = wholeB bs' bad := by
  cases bad with
  | true => rfl
  | false =>
    have h := S.same rfl
    have hle := S.le
    unfold refWholeB wholeB
    by_cases e : at_ = b.length
    · rw [h, e, List.drop_length]; simp
    · have hl : 0 < bs'.length := by rw [h, List.length_drop]; omega
      cases bs' with
      | nil => simp at hl
      | cons => simp [e]
theorem SimAt.drawn {w0 w : World} {g g2 : Nat} {b bs' : List UInt8} {at_ : Nat} {bad : Bool} (S : SimAt w0 w g g2 b bs' at_ bad) (n : Nat) : SimAt w0 (w.drewN n) g g2 b bs' at_ bad :=
  ⟨S.lim, S.le, S.rdr.frm ((Frm.refl (fun _ => False) w).drewN n) (fun f => f) (fun _ _ f => f), S.ref.frm ((Frm.refl (fun _ => False) w).drewN n) (fun f => f) (fun _ _ f => f), S.same, S.hg, S.h0, S.fr.trans ((Frm.refl (fun _ => False) w).drewN n)⟩
theorem SimAt.drew {w0 w : World} {g g2 : Nat} {b bs' : List UInt8} {at_ : Nat} {bad : Bool} (S : SimAt w0 w g g2 b bs' at_ bad) : SimAt w0 w.drew g g2 b bs' at_ bad :=
  ⟨S.lim, S.le, S.rdr.frm ((Frm.refl (fun _ => False) w).drew) (fun f => f) (fun _ _ f => f), S.ref.frm ((Frm.refl (fun _ => False) w).drew) (fun f => f) (fun _ _ f => f), S.same, S.hg, S.h0, S.fr.trans ((Frm.refl (fun _ => False) w).drew)⟩
theorem SimAt.amis {w0 w : World} {g g2 : Nat} {b bs' : List UInt8} {at_ : Nat} {bad : Bool} (S : SimAt w0 w g g2 b bs' at_ bad) : w.cell? ⟨g2, 2, none⟩ = some (.bool bad) := by
  obtain ⟨_, _, hb, _⟩ := S.ref
  exact hb.cell 2
set_option maxRecDepth 100000 in
set_option maxHeartbeats 4000000 in
theorem reads_walk (w : World) (A : Option Addr) (cap : Nat) (bs : List UInt8) (hb : IsBytes w A cap bs) (hr : cap ≤ 140737488351232) (s : Option Addr × Nat × List (Int × Int × Int)) (hs : IsL w 24 askf askq s) :
    Calls Try.prog 8 #[.slice A bs.length cap, sv s] w fun e w' => e = .returned (.bool true) ∧ Below w.heap.size w w' := by
  obtain ⟨P, pc, l⟩ := s
  have HB := Lib.hid hb.rd
  have HP : Hid (Rd w w.heap.size P (l.flatMap askf)) := Lib.hid hs.rd
  have hpl : l.length ≤ 9223372036854775807 := by have := hs.le; have := hs.most; unfold maxLen at this; simp at *; omega
  have HWF : Hid (∀ x ∈ l, askq x) := Lib.hid hs.all
  have hle := hb.le
  have hbl : bs.length ≤ 140737488355328 := by omega
  have hmost := hb.most
  clear hb hs
  unfold sv
  go_enter Try.func8, Try.ntmps8
  go_wp2_with fail
  refine (new_any w w.heap.size A cap bs HB.out (Nat.le_refl _) hbl hle hmost).mono ?_
  rintro e w1 ⟨g, rfl, h1, F1, hg⟩
  have hglt : g < w1.heap.size := by obtain ⟨_, _, hb, _⟩ := h1; exact hb.lt
  have HS0 : Hid (SimAt w (w1.alloc (.cells #[.slice A bs.length cap, .int .i64 0, .bool false] 37)) g w1.heap.size bs bs 0 false) := Lib.hid
    ⟨hbl, Nat.zero_le _, h1.frm ((Frm.refl (fun _ => False) w1).alloc _) (fun f => f) (fun _ _ f => f),
      ⟨A, cap, Blk.new w1 _ _, ((HB.out.fresh (Nat.le_refl _) F1).alloc F1.size _), hle, hmost, F1.size⟩, fun _ => rfl, hglt, hg, F1.trans ((Frm.refl _ w1).alloc _)⟩
  clear h1 F1
  go_wp2_with fail
  go_loopw [7] (fun v7 wr => ∃ (k : Nat) (bs' : List UInt8) (at_ : Nat) (bad : Bool), k ≤ l.length ∧ k ≤ 100 ∧ v7 = .int .i64 (k : Int) ∧ SimAt w wr g w1.heap.size bs bs' at_ bad) (fun v7 _ => (100 - intOf v7).toNat)
  case atStart => exact ⟨0, _, _, _, by omega, by omega, rfl, HS0.out⟩
  case round =>
    obtain ⟨k, bs', at_, bad, hk, hk1, rfl, hS⟩ := hrel
    have HS := Lib.hid hS
    have hlim := hS.lim
    have hat := hS.le
    clear hS HS0
    generalize w1.heap.size = g2 at HS
    have hg2 := HS.out.hg
    by_cases hkl : k < l.length ∧ k < 100
    · obtain ⟨hk2, hk3⟩ := hkl
      obtain ⟨b, o, rfl, hblt, hc⟩ := elem_at (f := askf) (size := 3) (fun _ => rfl) HP.out (by omega) hk2
      have hq := HWF.out l[k] (List.getElem_mem hk2)
      generalize l[k] = x at hc hq
      obtain ⟨x0, x1, x2⟩ := x
      have hx2 := (wf_i64 hq.2.2).2
      have cell : ∀ wq, Fresh w wq → wq.cell? ⟨b, o + k * 3, none⟩ = some (.int .i64 x0) ∧ wq.cell? ⟨b, o + k * 3 + 1, none⟩ = some (.int .i64 x1) ∧ wq.cell? ⟨b, o + k * 3 + 2, none⟩ = some (.int .i64 x2) := fun wq F =>
        ⟨(F.cell (p := ⟨b, o + k * 3, none⟩) hblt (fun f => f)).trans (hc 0 _ rfl), (F.cell (p := ⟨b, o + k * 3 + 1, none⟩) hblt (fun f => f)).trans (hc 1 _ rfl), (F.cell (p := ⟨b, o + k * 3 + 2, none⟩) hblt (fun f => f)).trans (hc 2 _ rfl)⟩
      have CELL := Lib.hid cell
      clear cell hc hq
      have hk0 : (0 : Int) ≤ k := by omega
      have hk2' : (k : Int) < l.length := by omega
      have c0 := (CELL.out _ HS.out.fr).1
      obtain ⟨y, hy⟩ : ∃ y, bits .and .i64 x0 3 = y := ⟨_, rfl⟩
      by_cases y0 : y = 0
      · obtain ⟨u, hu, hu2⟩ := u64_wrap x2
        have HU := Lib.hid hu
        clear hu
        have c2 := (CELL.out _ HS.out.fr).2.2
        subst y0
        go_wp2_with fail
        rw [HU.out]
        refine (readNumber_any wr g g bs' bad u hu2 HS.out.rdr).mono ?_
        intro e w4 h4
        obtain ⟨rfl, h5, F4⟩ := num_parts h4
        have hm := HS.out.mid F4
        have HM := Lib.hid hm.1
        have HF4 := Lib.hid hm.2
        have H5 := Lib.hid h5
        have HFR := Lib.hid F4
        have c2 := (CELL.out _ HF4.out).2.2
        clear h4 h5 F4 hm c0
        go_wp2_with fail
        rw [HU.out]
        refine (rNumber_any w4 w.heap.size g2 bs at_ bad u hat hbl HM.out).mono ?_
        intro e w5 h6
        rw [same_res HS.out.same (numRes u)] at h6
        obtain ⟨rfl, h7⟩ := rnum_parts h6
        obtain ⟨bs5, at5, bad5, hS5⟩ := HS.out.next hbl (ifGood bad (numRes u bs')) H5.out HFR.out h7
        clear h6 h7 H5 HFR HM c2
        generalize valN (ifGood bad (numRes u bs')) = vv
        have HS5 := Lib.hid hS5
        have hd2 : ∀ n, (w5.drewN n).cell? ⟨g2, 2, none⟩ = some (.bool bad5) := fun n => (HS5.out.drawn n).amis
        have HQ1 : Hid (∀ n, Calls Try.prog 26 #[.pointer (some ⟨g, 0, none⟩)] (w5.drewN n) fun e w' => e = .returned (.bool bad5) ∧ ∃ m, w' = w5.drewN m) := Lib.hid fun n => (bad_any (w5.drewN n) g g _ _ (HS5.out.drawn n).rdr).mono fun e w' h => ⟨h.1, n, h.2.symm⟩
        have HQ2 : Hid (∀ n, Calls Try.prog 27 #[.pointer (some ⟨g, 0, none⟩)] (w5.drewN n) fun e w' => e = .returned (.bool (wholeB bs5 bad5)) ∧ ∃ m, w' = w5.drewN m) := Lib.hid fun n => (whole_any (w5.drewN n) g g _ _ (HS5.out.drawn n).rdr).mono fun e w' h => ⟨h.1, n, h.2.symm⟩
        have HQ3 : Hid (∀ n, Calls Try.prog 28 #[.pointer (some ⟨g2, 0, none⟩)] (w5.drewN n) fun e w' => e = .returned (.bool (wholeB bs5 bad5)) ∧ ∃ m, w' = w5.drewN m) := Lib.hid fun n => (rWhole_any (w5.drewN n) _ g2 bs at5 bad5 (HS5.out.drawn n).ref).mono fun e w' h => ⟨by rw [← whole_same HS5.out]; exact h.1, by obtain ⟨m, hm⟩ := h.2; exact ⟨n + m, by rw [hm]; exact drewN_add _ _ _⟩⟩
        generalize wholeB bs5 bad5 = wb at HQ2 HQ3
        clear hS5
        go_wp2_with fail
        go_quiet ((first | (go_at_call 26; exact HQ1.out _) | (go_at_call 27; exact HQ2.out _) | (go_at_call 28; exact HQ3.out _)))
        go_wp2_with fail
        go_roundw
        case rel => exact ⟨k + 1, bs5, at5, bad5, by omega, by omega, by go_num, HS5.out.drawn _⟩
        case measure => simp [intOf]; omega
      · by_cases y1 : y = 1
        · subst y1
          have c1 := (CELL.out _ HS.out.fr).2.1
          have c2 := (CELL.out _ HS.out.fr).2.2
          go_wp2_with fail
          go_still_tail 11, (by kernel_rfl)
          show wpList _ _ _ _ _ wr.drew
          have HS3 := Lib.hid HS.out.drew
          generalize wr.drew = w3 at HS3
          clear c0 c1 c2 HS
          go_wp2_with fail
          refine (readInt_any w3 g g bs' bad x1 x2 HS3.out.rdr).mono ?_
          intro e w4 h4
          obtain ⟨rfl, h5, F4⟩ := int_parts h4
          have hm := HS3.out.mid F4
          have HM := Lib.hid hm.1
          have HF4 := Lib.hid hm.2
          have H5 := Lib.hid h5
          have HFR := Lib.hid F4
          have c1 := (CELL.out _ HF4.out).2.1
          have c2 := (CELL.out _ HF4.out).2.2
          clear h4 h5 F4 hm
          go_wp2_with fail
          go_region_held3 (fun w' => w'.cell? ⟨b, o + k * 3 + 1, none⟩ = some (.int .i64 x1) ∧ w'.cell? ⟨b, o + k * 3 + 2, none⟩ = some (.int .i64 x2))
            (first | exact (CELL.out _ HF4.out).2 | exact (CELL.out _ (HF4.out.drew)).2 | exact (CELL.out _ HS5.out.fr).2)
            (first
              | (go_at_call 23; show Calls _ _ #[.pointer (some ⟨g2, 0, none⟩), .int .i64 x1, .int .i64 x2] w4.drew _; refine (rInt_any w4.drew w.heap.size g2 bs at_ bad x1 x2 hat hbl (HM.out.frm ((Frm.refl (fun _ => False) w4).drew) (fun f => f) (fun _ _ f => f))).mono ?_; intro e w5 h6; rw [same_res HS3.out.same (intRes x1 x2)] at h6; obtain ⟨rfl, h7⟩ := rint_parts h6; obtain ⟨bs5, at5, bad5, hS5⟩ := HS3.out.next hbl (ifGood bad (intRes x1 x2 bs')) (H5.out.frm ((Frm.refl (fun _ => False) w4).drew) (fun f => f) (fun _ _ f => f)) HFR.out.drew h7; have HS5 := Lib.hid hS5; clear h6 h7 hS5))
          have hS5 := HS5.out
          clear HM HFR H5 HF4 c1 c2
          generalize valI (ifGood bad (intRes x1 x2 bs')) = vv
          have HS5 := Lib.hid hS5
          have hd2 : ∀ n, (w5.drewN n).cell? ⟨g2, 2, none⟩ = some (.bool bad5) := fun n => (HS5.out.drawn n).amis
          have HQ1 : Hid (∀ n, Calls Try.prog 26 #[.pointer (some ⟨g, 0, none⟩)] (w5.drewN n) fun e w' => e = .returned (.bool bad5) ∧ ∃ m, w' = w5.drewN m) := Lib.hid fun n => (bad_any (w5.drewN n) g g _ _ (HS5.out.drawn n).rdr).mono fun e w' h => ⟨h.1, n, h.2.symm⟩
          have HQ2 : Hid (∀ n, Calls Try.prog 27 #[.pointer (some ⟨g, 0, none⟩)] (w5.drewN n) fun e w' => e = .returned (.bool (wholeB bs5 bad5)) ∧ ∃ m, w' = w5.drewN m) := Lib.hid fun n => (whole_any (w5.drewN n) g g _ _ (HS5.out.drawn n).rdr).mono fun e w' h => ⟨h.1, n, h.2.symm⟩
          have HQ3 : Hid (∀ n, Calls Try.prog 28 #[.pointer (some ⟨g2, 0, none⟩)] (w5.drewN n) fun e w' => e = .returned (.bool (wholeB bs5 bad5)) ∧ ∃ m, w' = w5.drewN m) := Lib.hid fun n => (rWhole_any (w5.drewN n) _ g2 bs at5 bad5 (HS5.out.drawn n).ref).mono fun e w' h => ⟨by rw [← whole_same HS5.out]; exact h.1, by obtain ⟨m, hm⟩ := h.2; exact ⟨n + m, by rw [hm]; exact drewN_add _ _ _⟩⟩
          generalize wholeB bs5 bad5 = wb at HQ2 HQ3
          clear hS5
          go_wp2_with fail
          go_quiet ((first | (go_at_call 26; exact HQ1.out _) | (go_at_call 27; exact HQ2.out _) | (go_at_call 28; exact HQ3.out _)))
          go_wp2_with fail
          go_roundw
          case rel => exact ⟨k + 1, bs5, at5, bad5, by omega, by omega, by go_num, HS5.out.drawn _⟩
          case measure => simp [intOf]; omega
        · have e0 : (y == 0) = false := by simpa using y0
          have e1 : (y == 1) = false := by simpa using y1
          have c2 := (CELL.out _ HS.out.fr).2.2
          clear y0 y1
          go_wp2_with fail
          refine (readText_any wr g g bs' bad x2 hx2 hlim HS.out.rdr).mono ?_
          intro e w4 h4
          obtain ⟨A4, c4, rfl, r4, h5, F4⟩ := text_parts h4
          have hwr : g2 < wr.heap.size := HS.out.ref.lt
          have hm := HS.out.mid F4
          have HM := Lib.hid hm.1
          have HF4 := Lib.hid hm.2
          have H5 := Lib.hid h5
          have HFR := Lib.hid F4
          have c2 := (CELL.out _ HF4.out).2.2
          have hg4 : g2 < w4.heap.size := HM.out.lt
          obtain ⟨res, hres⟩ : ∃ res, res = ifGood bad (textRes x2 bs') := ⟨_, rfl⟩
          rw [← hres] at r4 H5
          rw [← hres]
          have HRES := Lib.hid hres
          clear hres
          obtain ⟨tt, htt⟩ : ∃ tt, tt = valT res := ⟨_, rfl⟩
          rw [← htt] at r4
          rw [← htt]
          have HTT := Lib.hid htt
          have HR4 := Lib.hid r4
          clear h4 h5 F4 hm c0 r4 htt
          have QS : Hid (∀ w', Rd w' w'.heap.size A4 (tt.map bv) → (convert 23 9 (.slice A4 tt.length c4)).run Try.prog w' = .ok (.string (str tt)) w') := Lib.hid fun w' h => conv_u c4 h rfl
          have RS : Hid (∀ w', StepTo w4.drew w.heap.size g2 bs (res.map (·.2)) w' → Rd w' w'.heap.size A4 (tt.map bv)) := Lib.hid fun w' h => by
            obtain ⟨_, _, _, _, F⟩ := h
            exact (HR4.out.drew.frm F (fun k hk e => by have := (HR4.out.lt k hk).1; omega)).rd
          go_wp2_with fail
          have c2d : w4.drew.cell? ⟨b, o + k * 3 + 2, none⟩ = some (.int .i64 x2) := (CELL.out _ HF4.out.drew).2.2
          have q1d := QS.out _ HR4.out.rd.drew
          clear c2
          go_region_with
            ((first
              | (go_at_call 25; show Calls _ _ #[.pointer (some ⟨g2, 0, none⟩), .int .i64 x2] w4.drew _; refine (rText_any w4.drew w.heap.size g2 bs at_ bad x2 hx2 hat hbl (HM.out.frm ((Frm.refl (fun _ => False) w4).drew) (fun f => f) (fun _ _ f => f))).mono ?_; intro e w5 h6; rw [same_res HS.out.same (textRes x2), ← HRES.out] at h6; obtain ⟨A5, c5, rfl, r5, h7⟩ := rtext_parts h6; rw [← HTT.out] at r5; rw [← HTT.out]; have q15 := QS.out _ (RS.out w5 h7); have q5 : (convert 23 9 (.slice A5 tt.length c5)).run Try.prog w5 = .ok (.string (str tt)) w5 := conv_u c5 r5 rfl; obtain ⟨bs5, at5, bad5, hS5⟩ := HS.out.next hbl res (H5.out.frm ((Frm.refl (fun _ => False) w4).drew) (fun f => f) (fun _ _ f => f)) HFR.out.drew h7; have HS5 := Lib.hid hS5; clear h6 h7 hS5 r5)))
          all_goals
            have hS5 := HS5.out
            clear HM HFR H5 HF4
            have HS5 := Lib.hid hS5
            have hd2 : ∀ n, (w5.drewN n).cell? ⟨g2, 2, none⟩ = some (.bool bad5) := fun n => (HS5.out.drawn n).amis
            have HQ1 : Hid (∀ n, Calls Try.prog 26 #[.pointer (some ⟨g, 0, none⟩)] (w5.drewN n) fun e w' => e = .returned (.bool bad5) ∧ ∃ m, w' = w5.drewN m) := Lib.hid fun n => (bad_any (w5.drewN n) g g _ _ (HS5.out.drawn n).rdr).mono fun e w' h => ⟨h.1, n, h.2.symm⟩
            have HQ2 : Hid (∀ n, Calls Try.prog 27 #[.pointer (some ⟨g, 0, none⟩)] (w5.drewN n) fun e w' => e = .returned (.bool (wholeB bs5 bad5)) ∧ ∃ m, w' = w5.drewN m) := Lib.hid fun n => (whole_any (w5.drewN n) g g _ _ (HS5.out.drawn n).rdr).mono fun e w' h => ⟨h.1, n, h.2.symm⟩
            have HQ3 : Hid (∀ n, Calls Try.prog 28 #[.pointer (some ⟨g2, 0, none⟩)] (w5.drewN n) fun e w' => e = .returned (.bool (wholeB bs5 bad5)) ∧ ∃ m, w' = w5.drewN m) := Lib.hid fun n => (rWhole_any (w5.drewN n) _ g2 bs at5 bad5 (HS5.out.drawn n).ref).mono fun e w' h => ⟨by rw [← whole_same HS5.out]; exact h.1, by obtain ⟨m, hm⟩ := h.2; exact ⟨n + m, by rw [hm]; exact drewN_add _ _ _⟩⟩
            generalize wholeB bs5 bad5 = wb at HQ2 HQ3
            clear hS5
            go_wp2_with fail
            go_quiet ((first | (go_at_call 26; exact HQ1.out _) | (go_at_call 27; exact HQ2.out _) | (go_at_call 28; exact HQ3.out _)))
            go_wp2_with fail
            go_roundw
            case rel => exact ⟨k + 1, bs5, at5, bad5, by omega, by omega, by go_num, HS5.out.drawn _⟩
            case measure => simp [intOf]; omega
    · have HQ2 : Hid (Calls Try.prog 27 #[.pointer (some ⟨g, 0, none⟩)] wr fun e w' => e = .returned (.bool (wholeB bs' bad)) ∧ wr = w') := Lib.hid (whole_any wr g g _ _ HS.out.rdr)
      have HQ3 : Hid (Calls Try.prog 28 #[.pointer (some ⟨g2, 0, none⟩)] wr fun e w' => e = .returned (.bool (wholeB bs' bad)) ∧ ∃ m, w' = wr.drewN m) := Lib.hid ((rWhole_any wr _ g2 bs at_ bad HS.out.ref).mono fun e w' h => ⟨by rw [← whole_same HS.out]; exact h.1, h.2⟩)
      generalize wholeB bs' bad = wb at HQ2 HQ3
      go_wp2_with fail
      all_goals
        refine HQ2.out.mono ?_
        rintro e w4 ⟨rfl, rfl⟩
        go_wp2_with fail
        refine HQ3.out.mono ?_
        rintro e w4 ⟨rfl, m, rfl⟩
        go_wp2_with fail
        go_ret
        exact ⟨by simp, (HS.out.drawn m).fr.below⟩
end Go.Proofs.Ytbngokalmfodiaa

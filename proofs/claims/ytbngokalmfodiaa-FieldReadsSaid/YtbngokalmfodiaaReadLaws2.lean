/- The law FieldStays walked. -/
import Derived.Test.YtbngokalmfodiaaReadLaws
import Derived.Test.YtbngokalmfodiaaReads
import Derived.StillTailTactics
namespace Go.Proofs.Ytbngokalmfodiaa
open Go.RowKit ReadM

theorem text_minus (bs : List UInt8) : textRes (-1) bs = none := by
  unfold textRes
  split
  · exact if_neg (fun h => by have := h.1; omega)
  · rfl
/-- whatever a number was asked first: what a reader is behind it -/
theorem num_state {w : World} {B gr : Nat} {bs : List UInt8} {r : Option (Nat × List UInt8)} {e : Ending} {w' : World} (hb : bs.length ≤ 140737488355328) (hr : ∀ x, r = some x → x.2.length < bs.length) (h : NumPost w B gr bs (ifGood false r) e w') :
    ∃ v bs' bad, e = .returned (.int .u64 (v : Int)) ∧ bs'.length ≤ 140737488355328 ∧ RdrAt w' B gr bs' bad ∧ Frm (fun k => k = gr) w w' := by
  obtain ⟨he, h1, h2⟩ := h
  cases r with
  | none => exact ⟨0, bs, true, he, hb, h1, h2⟩
  | some x => exact ⟨x.1, x.2, false, he, by have := hr x rfl; omega, h1, h2⟩
theorem numRes_len {most : Nat} {bs : List UInt8} {x : Nat × List UInt8} (h : numRes most bs = some x) : x.2.length < bs.length := by
  unfold numRes at h
  split at h
  · rename_i hd
    split at h
    · injection h with h; rw [← h]; exact dec_len hd
    · cases h
  · cases h
theorem ifGood_none {α : Type} (bad : Bool) : ifGood bad (none : Option α) = none := by cases bad <;> rfl
set_option maxRecDepth 100000 in
set_option maxHeartbeats 2000000 in
theorem stays_walk (w : World) (A : Option Addr) (cap : Nat) (bs : List UInt8) (hb : IsBytes w A cap bs) (hr : cap ≤ 140737488351232) (s : Option Addr × Nat × List (Int × Int × Int)) (hs : IsL w 24 askf askq s) :
    Calls Try.prog 9 #[.slice A bs.length cap, sv s] w fun e w' => e = .returned (.bool true) ∧ Below w.heap.size w w' := by
  obtain ⟨P, pc, l⟩ := s
  have HB := Lib.hid hb.rd
  have HP : Hid (Rd w w.heap.size P (l.flatMap askf)) := Lib.hid hs.rd
  have hpl : l.length ≤ 9223372036854775807 := by have := hs.le; have := hs.most; unfold maxLen at this; simp at *; omega
  have HWF : Hid (∀ x ∈ l, askq x) := Lib.hid hs.all
  have hle := hb.le
  have hbl : bs.length ≤ 140737488355328 := by omega
  have hmost := hb.most
  clear hb hs
  unfold sv
  go_enter Try.func9, Try.ntmps9
  go_wp2_with fail
  refine (new_any w w.heap.size A cap bs HB.out (Nat.le_refl _) hbl hle hmost).mono ?_
  rintro e w1 ⟨g, rfl, h1, F1, hg⟩
  have H1 := Lib.hid h1
  have HF1 := Lib.hid F1
  clear h1 F1
  go_wp2_with fail
  refine (readNumber_any w1 g g bs false 0 (by omega) H1.out).mono ?_
  intro e w2 h2
  obtain ⟨v2, bs2, bad2, rfl, hbl2, h3, F2⟩ := num_state hbl (fun x hx => numRes_len hx) h2
  have H3 := Lib.hid h3
  have HF2 := Lib.hid (show Fresh w w2 from HF1.out.trans' F2 (fun i hi h => by omega))
  clear h2 h3 F2
  go_wp2_with fail
  refine (readText_any w2 g g bs2 bad2 (-1) (by omega) hbl2 H3.out).mono ?_
  intro e w3 h4
  rw [text_minus, ifGood_none] at h4
  obtain ⟨v3, t3, rfl, ht3, hs3, h5, F3⟩ := h4
  have HF3 := Lib.hid (show Fresh w w3 from HF2.out.trans' F3 (fun i hi h => by omega))
  obtain ⟨A3, cap3, rfl, _⟩ := hs3.shape
  have H5 : RdrAt w3 g g bs2 true := h5
  clear h5 F3 hs3 ht3
  go_wp2_with fail
  go_loopw [6] (fun v6 wr => ∃ k : Nat, k ≤ l.length ∧ k ≤ 100 ∧ v6 = .int .i64 (k : Int) ∧ RdrAt wr g g bs2 true ∧ Fresh w wr) (fun v6 _ => (100 - intOf v6).toNat)
  case atStart => exact ⟨0, by omega, by omega, rfl, H5, HF3.out⟩
  case round =>
    obtain ⟨k, hk, hk1, rfl, hR, hF⟩ := hrel
    have HR := Lib.hid hR
    have HF := Lib.hid hF
    clear hR hF H5
    by_cases hkl : k < l.length ∧ k < 100
    · obtain ⟨hk2, hk3⟩ := hkl
      obtain ⟨b, o, rfl, hblt, hc⟩ := elem_at (f := askf) (size := 3) (fun _ => rfl) HP.out (by omega) hk2
      have hq := HWF.out l[k] (List.getElem_mem hk2)
      generalize l[k] = x at hc hq
      obtain ⟨x0, x1, x2⟩ := x
      have hx2 := (wf_i64 hq.2.2).2
      have cell : ∀ wq, Fresh w wq → wq.cell? ⟨b, o + k * 3 + 1, none⟩ = some (.int .i64 x1) ∧ wq.cell? ⟨b, o + k * 3 + 2, none⟩ = some (.int .i64 x2) := fun wq F =>
        ⟨(F.cell (p := ⟨b, o + k * 3 + 1, none⟩) hblt (fun f => f)).trans (hc 1 _ rfl), (F.cell (p := ⟨b, o + k * 3 + 2, none⟩) hblt (fun f => f)).trans (hc 2 _ rfl)⟩
      have CELL := Lib.hid cell
      clear cell hc hq
      have hk0 : (0 : Int) ≤ k := by omega
      have hk2' : (k : Int) < l.length := by omega
      obtain ⟨u, hu, hu2⟩ := u64_wrap x2
      have HU := Lib.hid hu
      clear hu
      have c2 := (CELL.out _ HF.out).2
      go_wp2_with fail
      rw [HU.out]
      refine (readNumber_any wr g g bs2 true u hu2 HR.out).mono ?_
      intro e w4 h4
      obtain ⟨rfl, h5, F4⟩ := bad_num h4
      have HR4 := Lib.hid h5
      have HF4 := Lib.hid (show Fresh w w4 from HF.out.trans' F4 (fun i hi h => by omega))
      clear h4 h5 F4 c2
      have c1 := (CELL.out _ HF4.out).1
      have c2 := (CELL.out _ HF4.out).2
      go_wp2_with fail
      go_still_tail 11, (by kernel_rfl)
      show wpList _ _ _ _ _ w4.drew
      have HR5 : Hid (RdrAt w4.drew g g bs2 true) := Lib.hid (HR4.out.frm ((Frm.refl (fun _ => False) w4).drew) (fun f => f) (fun _ _ f => f))
      have HF5 : Hid (Fresh w w4.drew) := Lib.hid (HF4.out.trans ((Frm.refl (fun _ => False) w4).drew))
      generalize w4.drew = w5 at HR5 HF5
      clear c1 c2
      go_wp2_with fail
      refine (readInt_any w5 g g bs2 true _ _ HR5.out).mono ?_
      intro e w6 h6
      obtain ⟨rfl, h7, F6⟩ := bad_int h6
      have HR6 := Lib.hid h7
      have HF6 := Lib.hid (show Fresh w w6 from HF5.out.trans' F6 (fun i hi h => by omega))
      clear h6 h7 F6
      have c2 := (CELL.out _ HF6.out).2
      go_wp2_with fail
      refine (readText_any w6 g g bs2 true x2 hx2 hbl2 HR6.out).mono ?_
      intro e w7 h8
      obtain ⟨A7, cap7, rfl, h9, F7⟩ := bad_text h8
      have HR7 := Lib.hid h9
      have HF7 := Lib.hid (show Fresh w w7 from HF6.out.trans' F7 (fun i hi h => by omega))
      clear h8 h9 F7 c2
      go_wp2_with fail
      refine (bad_any w7 g g bs2 true HR7.out).mono ?_
      rintro e w8 ⟨rfl, rfl⟩
      go_wp2_with fail
      refine (whole_any w7 g g bs2 true HR7.out).mono ?_
      rintro e w8 ⟨rfl, rfl⟩
      rw [show wholeB bs2 true = false from rfl]
      go_wp2_with fail
      go_roundw
      case rel => exact ⟨k + 1, by omega, by omega, by go_num, HR7.out, HF7.out⟩
      case measure => simp [intOf]; omega
    · go_wp2_with fail
      all_goals
        refine (bad_any wr g g bs2 true HR.out).mono ?_
        rintro e w8 ⟨rfl, rfl⟩
        go_wp2_with fail
        go_ret
        exact ⟨rfl, HF.out.below⟩
end Go.Proofs.Ytbngokalmfodiaa

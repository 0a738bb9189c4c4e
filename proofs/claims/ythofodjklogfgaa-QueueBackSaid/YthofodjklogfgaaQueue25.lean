/- alike; the law QueueScripts walked. -/
import Derived.Test.YthofodjklogfgaaQueue24
import Derived.Test.YthofodjklogfgaaConv
import Derived.Deep.RegionWith
namespace Go.Proofs.Ythofodjklogfgaa
open Go.RowKit QueueM
attribute [local go_sem] run_store_float

theorem conv_u {w : World} {B : Nat} {A : Option Addr} {bs : List UInt8} (c : Nat) (h : Rd w B A (bs.map bv)) {n : Nat} (hn : n = bs.length) : (convert 50 9 (.slice A n c)).run Try.prog w = .ok (.string (str bs)) w :=
  conv_bytes _ _ _ Try.underlying50 Try.underlying5 Try.underlying9 c h hn
set_option maxRecDepth 100000 in
set_option maxHeartbeats 4000000 in
theorem alike_any (w0 w : World) (b c : Nat) (v u : Value) (l : List Wt) (h : Both w0 b c v u l l w) (hg : QueueM.Good l) (hw : Words l) :
    Calls Try.prog 19 #[.pointer (some ⟨b, 0, none⟩), .pointer (some ⟨c, 0, none⟩)] w fun e w' => e = .returned (.bool true) ∧ Fresh w w' := by
  have HB := Lib.hid h
  have HG := Lib.hid hg
  have HW := Lib.hid hw
  have hfew := hg.few
  obtain ⟨A1, c1, rfl, _, _, _⟩ := h.r.sl.shape
  have HALL := Lib.hid (all_any w.drew w0.heap.size b v l (HB.out.q.fresh ((Frm.refl _ w).drew)) (by omega))
  have CELL : Hid (∀ w', Fresh w w' → w'.cell? ⟨c, 0, none⟩ = some (.slice A1 l.length c1)) := Lib.hid fun w' F => (HB.out.r.fresh F).blk.cell 0
  clear h hg hw
  go_enter Try.func19, Try.ntmps19
  go_wp2_with fail
  go_region_held3 (fun w' => w'.cell? ⟨c, 0, none⟩ = some (.slice A1 l.length c1))
    (first | exact CELL.out _ (Frm.refl _ _) | exact CELL.out _ ((Frm.refl _ _).drew) | exact CELL.out _ (((Frm.refl _ _).drew).trans HF3.out) | exact CELL.out _ ((((Frm.refl _ _).drew).trans HF3.out).trans HF4.out))
    (first
      | (go_at_call 12; refine (HALL.out).mono ?_; rintro e w3 ⟨v3, rfl, hs3, f3⟩; obtain ⟨A3, c3, rfl, _⟩ := hs3.shape; have HS3 := Lib.hid hs3; have HF3 := Lib.hid f3; clear hs3 f3)
      | (go_at_call 13; refine (sameWaits_any w3 A3 A1 c3 c1 l HS3.out.rd (HB.out.r.fresh (((Frm.refl _ w).drew).trans HF3.out)).sl.rd (by omega) HW.out).mono ?_; rintro e w4 ⟨rfl, f4⟩; have HF4 := Lib.hid f4; clear f4))
  have HFF := Lib.hid ((((Frm.refl (fun _ => False) w).drew).trans HF3.out).trans HF4.out)
  go_wp2_with fail
  refine (encode_any w4 w0.heap.size b v l (HB.out.q.fresh HFF.out) HG.out HW.out).mono ?_
  rintro e w5 ⟨v5, rfl, hs5, f5⟩
  obtain ⟨A5, c5, rfl, _⟩ := hs5.shape
  have HS5 := Lib.hid hs5
  have HF5 := Lib.hid (HFF.out.trans f5)
  have q5 : (convert 50 9 (.slice A5 (enc l).length c5)).run Try.prog w5.drew = .ok (.string (str (enc l))) w5.drew := conv_u c5 (HS5.out.rd.drew) rfl
  have HRE := Lib.hid (refEncode_any w5.drew w0.heap.size c (.slice A1 l.length c1) l (HB.out.r.fresh HF5.out.drew) HG.out HW.out)
  unfold EncPost at HRE
  clear hs5 f5
  generalize enc l = el at HS5 q5 HRE
  go_wp2_with fail
  go_region_with
    ((first
      | (go_at_call 34; refine (HRE.out).mono ?_; rintro e w6 ⟨v6, rfl, hs6, f6⟩; obtain ⟨A6, c6, rfl, _⟩ := hs6.shape; have q51 : (convert 50 9 (.slice A5 el.length c5)).run Try.prog w6 = .ok (.string (str el)) w6 := conv_u c5 ((HS5.out.fresh (((Frm.refl _ w5).drew).trans f6)).rd) rfl; have q6 : (convert 50 9 (.slice A6 el.length c6)).run Try.prog w6 = .ok (.string (str el)) w6 := conv_u c6 hs6.rd rfl; have HF6 := Lib.hid (HF5.out.drew.trans f6); clear hs6 f6)))
  all_goals
    go_wp2_with fail
    go_ret
    exact ⟨by first | rfl | simp [Act.put], HF6.out⟩
set_option maxRecDepth 100000 in
set_option maxHeartbeats 4000000 in
theorem scripts_law (w : World) (A : Option Addr) (cap : Nat) (ss : List Stp) (hA : Rd w w.heap.size A (ss.flatMap scells)) (hok : ∀ s ∈ ss, StpOk w s) (hlen : ss.length ≤ 9223372036854775807) :
    Calls Try.prog 6 #[.slice A ss.length cap] w fun e w' => e = .returned (.bool true) ∧ Below w.heap.size w w' := by
  have HA := Lib.hid hA
  have HOK := Lib.hid hok
  clear hA hok
  go_enter Try.func6, Try.ntmps6
  go_wp2_with fail
  refine (awake_any w).mono ?_
  rintro e w1 ⟨rfl, f1⟩
  have HF1 := Lib.hid f1
  clear f1
  go_wp2_with fail
  refine (new_any w1).mono ?_
  rintro e w2 ⟨rfl, q1, f2⟩
  have HB := Lib.hid (both_new (q1.less (B' := w.heap.size) HF1.out.size) (HF1.out.trans f2))
  clear q1 f2
  generalize w1.heap.size = b at HB
  go_wp2_with fail
  obtain ⟨w3, hw3⟩ : ∃ w3, w3 = w2.alloc (.cells #[.slice none 0 0] 44) := ⟨_, rfl⟩
  rw [← hw3] at HB ⊢
  clear hw3
  generalize w2.heap.size = c at HB
  go_loopw [6] (fun v6 wr => ∃ (i : Nat) (v u : Value) (l : List Wt), i ≤ ss.length ∧ i ≤ 250 ∧ v6 = .int .i64 (i : Int) ∧ Both w b c v u l l wr ∧ QueueM.Good l ∧ Words l) (fun v6 _ => ss.length - (intOf v6).toNat)
  case atStart => exact ⟨0, _, _, _, by omega, by omega, rfl, HB.out, QueueM.Good.nil, fun x hx => by cases hx⟩
  case round =>
    clear HB
    obtain ⟨i, v, u, l, hin, hi100, rfl, hb, hg, hwd⟩ := hrel
    have HB := Lib.hid hb
    have HG := Lib.hid hg
    have HWD := Lib.hid hwd
    have hi0 : (0 : Int) ≤ (i : Int) := by omega
    have hib : (i : Int) ≤ 250 := by omega
    have hfew := hg.few
    clear hb hg hwd
    by_cases hgo : i < ss.length ∧ i < 250
    · obtain ⟨hil, hi2⟩ := hgo
      have hili : (i : Int) < (ss.length : Int) := by omega
      have hi2i : (i : Int) < 250 := by omega
      obtain ⟨bl, o, rfl, _, p7⟩ := seven_at ((HA.out.fresh (Nat.le_refl _) HB.out.frm).more HB.out.frm.size) hil
      have hsok := HOK.out _ (List.getElem_mem hil)
      obtain ⟨s, hs⟩ : ∃ s, s = ss[i] := ⟨_, rfl⟩
      rw [← hs] at p7 hsok
      clear hs
      have HDO := Lib.hid (do_any w wr b c v u l s HB.out HG.out HWD.out ⟨hsok.wid, hsok.word, hsok.le, hsok.most, (hsok.rd.fresh (Nat.le_refl _) HB.out.frm).more HB.out.frm.size⟩)
      obtain ⟨so, ⟨xi, xc, xm, xt, xs⟩, ⟨lA, lc, lz⟩⟩ := s
      obtain ⟨c0, c1, c2, c3, c4, c5, c6⟩ := p7
      dsimp only [sv] at c0 c1 c2 c3 c4 c5 c6
      simp only [scells, sv] at HDO
      clear hsok
      go_wp2_with fail
      refine HDO.out.mono ?_
      rintro e w5 ⟨rfl, v2, u2, l2, b2, g2, wd2⟩
      have HB2 := Lib.hid b2
      have HG2 := Lib.hid g2
      have HWD2 := Lib.hid wd2
      clear b2 g2 wd2
      go_wp2_with fail
      go_roundw
      case rel => exact ⟨i + 1, v2, u2, l2, by omega, by omega, by go_num, HB2.out, HG2.out, HWD2.out⟩
      case measure => simp [intOf]; omega
    · have HEND : Hid (¬ (i : Int) < (ss.length : Int) ∨ ((i : Int) < (ss.length : Int) ∧ ¬ (i : Int) < 250)) := Lib.hid (by
        by_cases h : i < ss.length
        · exact .inr ⟨by omega, fun h2 => hgo ⟨h, by omega⟩⟩
        · exact .inl (by omega))
      clear hgo
      rcases HEND.out with hh | ⟨hh, hh2⟩
      all_goals
        go_wp2_with fail
        refine (alike_any w wr b c v u l HB.out HG.out HWD.out).mono ?_
        rintro e w5 ⟨rfl, f5⟩
        have HFL := Lib.hid (HB.out.frm.trans f5)
        clear f5
        go_wp2_with fail
        go_ret
        exact ⟨by simp, Fresh.below HFL.out⟩
theorem scripts_walk (w : World) (s : Option Addr × Nat × List Raw) (hs : IsL w 72 sf7 (sq7 w) s) :
    Calls Try.prog 6 #[sv s] w fun e w' => e = .returned (.bool true) ∧ Below w.heap.size w w' := by
  obtain ⟨A, cap, l⟩ := s
  have hle : l.length ≤ cap := hs.le
  have hm : cap ≤ maxLen := hs.most
  unfold maxLen at hm
  have hr : Rd w w.heap.size A ((l.map toStp).flatMap scells) := by rw [← map_stp]; exact hs.rd
  have h := scripts_law w A cap (l.map toStp) hr (stp_ok hs.all) (by rw [List.length_map]; omega)
  rw [List.length_map] at h
  exact h
end Go.Proofs.Ythofodjklogfgaa

/- The law QueueBack walked. -/
import Derived.Test.YthofodjklogfgaaQueue27
namespace Go.Proofs.Ythofodjklogfgaa
open Go.RowKit QueueM ReadM
attribute [local go_sem] run_store_float

theorem place_mid {x : Wt} : ∀ (t d : List Wt), (∀ y ∈ t, y.id ≠ x.id) → place x.id (t ++ x :: d) = t.length
  | [], d, _ => by simp [place, List.findIdx_cons]
  | y :: t, d, h => by
    have hy : decide (y.id = x.id) = false := by simpa using h y (by simp)
    have := place_mid t d (fun z hz => h z (by simp [hz]))
    unfold place at this ⊢
    rw [List.cons_append, List.findIdx_cons, hy, this]
    simp
theorem del_ins {x : Wt} {l : List Wt} (h : has x.id l = false) : remove x.id (ins x l) = (0, l) := by
  have hno : ∀ y ∈ l, y.id ≠ x.id := fun y hy e => by
    have := has_iff.2 ⟨y, hy, e⟩
    rw [h] at this; cases this
  have hp : place x.id (ins x l) = cnt x l := by
    have hc := cnt_le x l
    unfold ins
    rw [place_mid _ _ (fun y hy => hno y (List.mem_of_mem_take hy)), List.length_take]
    omega
  have hh : has x.id (ins x l) = true := has_iff.2 ⟨x, mem_ins.2 (.inl rfl), rfl⟩
  unfold remove
  rw [if_pos hh, del_eq, hp]
  have hc := cnt_le x l
  congr 1
  unfold ins
  rw [List.eraseIdx_append_of_length_le (by rw [List.length_take]; omega), List.length_take, show cnt x l - min (cnt x l) l.length = 0 by omega, List.eraseIdx_cons_zero, List.take_append_drop]
theorem add_not {x : Wt} {l : List Wt} (h : (add x l).1 ≠ 0) : (add x l).2 = l := by
  unfold add at *
  split
  · rename_i hr
    rw [if_pos hr] at h
    split
    · rfl
    · rename_i hh
      rw [if_neg hh] at h
      split
      · rfl
      · rename_i hf
        rw [if_neg hf] at h
        exact absurd rfl h
  · rfl
theorem wenc_le {x : Wt} (hr : right x = true) (hs : x.score < 18446744073709551616) : (wenc x).length ≤ 45 := by
  have h := nums_lt hr hs
  unfold wenc nums at *
  simp only [List.flatMap_cons, List.flatMap_nil, List.length_append, List.length_nil]
  have h1 := num_le (h x.id.toNat (by simp))
  have h2 := num_le (h x.cls.toNat (by simp))
  have h3 := num_le (h x.many.toNat (by simp))
  have h4 := num_le (h x.time.toNat (by simp))
  have h5 := num_le (h (FareM.key x.score) (by simp))
  omega
theorem wencs_le : ∀ (l : List Wt), (∀ x ∈ l, right x = true) → Words l → (l.flatMap wenc).length ≤ l.length * 45
  | [], _, _ => by simp
  | x :: l, hr, hw => by
    have h1 := wenc_le (hr x (by simp)) (hw x (by simp))
    have h2 := wencs_le l (fun y hy => hr y (by simp [hy])) (fun y hy => hw y (by simp [hy]))
    rw [List.flatMap_cons, List.length_append, List.length_cons]
    omega
theorem enc_le {l : List Wt} (hg : QueueM.Good l) (hw : Words l) : (enc l).length ≤ 20000 := by
  have h1 := wencs_le l hg.right hw
  have h2 := hg.few
  have h3 := num_le (n := l.length) (by omega)
  unfold enc
  rw [List.length_append]
  omega
/-- bytes of one's own stay where the list is written -/
theorem Both.bytes {w0 w w' : World} {b c : Nat} {v u : Value} {l m : List Wt} {B : Nat} {vv : Value} {n : Nat} {xs : List Value} (h : Both w0 b c v u l m w)
    (hs : Sl w B 5 1 vv n xs) (F : Frm (fun k => k = b ∨ v.ownBlock = some k) w w') : Sl w' B 5 1 vv n xs := by
  refine hs.frm F ?_
  rintro k hk (e | e)
  · subst e
    exact hs.apart h.q.blk (by decide) hk
  · obtain ⟨cur, hc⟩ := hs.own_blk hk
    exact h.q.sl.apart hc (by decide) e
set_option maxRecDepth 100000 in
set_option maxHeartbeats 8000000 in
theorem back_law (w : World) (A : Option Addr) (cap : Nat) (ss : List Stp) (hA : Rd w w.heap.size A (ss.flatMap scells)) (hok : ∀ s ∈ ss, StpOk w s) (hlen : ss.length ≤ 9223372036854775807) (xi xc xm xt : Int) (xs : Nat) (hx : xs < 18446744073709551616) :
    Calls Try.prog 8 #[.slice A ss.length cap, .agg #[.int .i64 xi, .int .i64 xc, .int .i64 xm, .int .i64 xt, .float .f64 xs]] w fun e w' => e = .returned (.bool true) ∧ Below w.heap.size w w' := by
  have HA := Lib.hid hA
  have HOK := Lib.hid hok
  clear hA hok
  obtain ⟨wx, hwx⟩ : ∃ wx, wx = w.alloc (.cells #[.int .i64 xi, .int .i64 xc, .int .i64 xm, .int .i64 xt, .float .f64 xs] 28) := ⟨_, rfl⟩
  have FX : Hid (Fresh w wx) := Lib.hid (by rw [hwx]; exact (Frm.refl _ w).alloc _)
  have BX : Hid (∀ w', Fresh wx w' → w'.cell? ⟨w.heap.size, 0, none⟩ = some (.int .i64 xi) ∧ w'.cell? ⟨w.heap.size, 1, none⟩ = some (.int .i64 xc) ∧ w'.cell? ⟨w.heap.size, 2, none⟩ = some (.int .i64 xm) ∧ w'.cell? ⟨w.heap.size, 3, none⟩ = some (.int .i64 xt) ∧ w'.cell? ⟨w.heap.size, 4, none⟩ = some (.float .f64 xs)) := Lib.hid fun w' F => by
    have B1 : Blk wx w.heap.size 28 (wcells ⟨xi, xc, xm, xt, xs⟩).toArray := by rw [hwx]; exact Blk.new w _ _
    have d := five_blk (B1.frm F (fun f => f))
    exact ⟨d.1, d.2.1, d.2.2.1, d.2.2.2.1, d.2.2.2.2⟩
  go_enter Try.func8, Try.ntmps8
  go_wp2_with fail
  rw [← hwx]
  clear hwx
  refine (awake_any wx).mono ?_
  rintro e w1 ⟨rfl, f1⟩
  have HF1 := Lib.hid f1
  clear f1
  go_wp2_with fail
  refine (new_any w1).mono ?_
  rintro e w2 ⟨rfl, q1, f2⟩
  have HB := Lib.hid (both_new (q1.less (B' := wx.heap.size) HF1.out.size) (HF1.out.trans f2))
  clear q1 f2
  generalize w1.heap.size = b at HB
  go_wp2_with fail
  obtain ⟨w3, hw3⟩ : ∃ w3, w3 = w2.alloc (.cells #[.slice none 0 0] 44) := ⟨_, rfl⟩
  rw [← hw3] at HB ⊢
  clear hw3
  generalize w2.heap.size = c at HB
  go_loopw [8] (fun v8 wr => ∃ (i : Nat) (v u : Value) (l : List Wt), i ≤ ss.length ∧ i ≤ 100 ∧ v8 = .int .i64 (i : Int) ∧ Both wx b c v u l l wr ∧ QueueM.Good l ∧ Words l) (fun v8 _ => ss.length - (intOf v8).toNat)
  case atStart => exact ⟨0, _, _, _, by omega, by omega, rfl, HB.out, QueueM.Good.nil, fun x hx => by cases hx⟩
  case round =>
    clear HB
    obtain ⟨i, v, u, l, hin, hi100, rfl, hb, hg, hwd⟩ := hrel
    have HB := Lib.hid hb
    have HG := Lib.hid hg
    have HWD := Lib.hid hwd
    have hi0 : (0 : Int) ≤ (i : Int) := by omega
    have hib : (i : Int) ≤ 100 := by omega
    have hfew := hg.few
    clear hb hg hwd
    by_cases hgo : i < ss.length ∧ i < 100
    · obtain ⟨hil, hi2⟩ := hgo
      have hili : (i : Int) < (ss.length : Int) := by omega
      have hi2i : (i : Int) < 100 := by omega
      obtain ⟨bl, o, rfl, _, p7⟩ := seven_at ((HA.out.fresh (Nat.le_refl _) (FX.out.trans HB.out.frm)).more (FX.out.trans HB.out.frm).size) hil
      have hsok := HOK.out _ (List.getElem_mem hil)
      obtain ⟨s, hs⟩ : ∃ s, s = ss[i] := ⟨_, rfl⟩
      rw [← hs] at p7 hsok
      clear hs
      have HDO := Lib.hid (do_any wx wr b c v u l s HB.out HG.out HWD.out ⟨hsok.wid, hsok.word, hsok.le, hsok.most, (hsok.rd.fresh (Nat.le_refl _) (FX.out.trans HB.out.frm)).more (FX.out.trans HB.out.frm).size⟩)
      obtain ⟨so, ⟨si, sc, sm, st, sz⟩, ⟨lA, lc, lz⟩⟩ := s
      obtain ⟨c0, c1, c2, c3, c4, c5, c6⟩ := p7
      dsimp only [sv] at c0 c1 c2 c3 c4 c5 c6
      simp only [scells, sv] at HDO
      clear hsok
      go_wp2_with fail
      refine HDO.out.mono ?_
      rintro e w5 ⟨rfl, v2, u2, l2, b2, g2, wd2⟩
      have HB2 := Lib.hid b2
      have HG2 := Lib.hid g2
      have HWD2 := Lib.hid wd2
      clear b2 g2 wd2
      go_wp2_with fail
      go_roundw
      case rel => exact ⟨i + 1, v2, u2, l2, by omega, by omega, by go_num, HB2.out, HG2.out, HWD2.out⟩
      case measure => simp [intOf]; omega
    · have HEND : Hid (¬ (i : Int) < (ss.length : Int) ∨ ((i : Int) < (ss.length : Int) ∧ ¬ (i : Int) < 100)) := Lib.hid (by
        by_cases h : i < ss.length
        · exact .inr ⟨by omega, fun h2 => hgo ⟨h, by omega⟩⟩
        · exact .inl (by omega))
      clear hgo
      rcases HEND.out with hh | ⟨hh, hh2⟩
      all_goals
        go_wp2_with fail
        refine (encode_any wr wx.heap.size b v l HB.out.q HG.out HWD.out).mono ?_
        rintro e w5 ⟨v5, rfl, hs5, f5⟩
        obtain ⟨A5, c5, rfl, h55, h56, _⟩ := hs5.shape
        have HS5 := Lib.hid hs5
        have HB5 := Lib.hid (HB.out.fresh f5)
        clear hs5 f5
        have HADD := Lib.hid (add_any w5 wx.heap.size b v l ⟨xi, xc, xm, xt, xs⟩ HB5.out.q HG.out)
        obtain ⟨d0, d1, d2, d3, d4⟩ := BX.out w5 HB5.out.frm
        unfold AddPost wagg at HADD
        have HAZ := Lib.hid (fun h => add_zero (x := ⟨xi, xc, xm, xt, xs⟩) (l := l) h)
        have HAN := Lib.hid (fun h => add_not (x := ⟨xi, xc, xm, xt, xs⟩) (l := l) h)
        have HAG := Lib.hid (HG.out.add ⟨xi, xc, xm, xt, xs⟩)
        obtain ⟨cc, hcc⟩ : ∃ cc, cc = (add ⟨xi, xc, xm, xt, xs⟩ l).1 := ⟨_, rfl⟩
        rw [← hcc] at HADD HAZ HAN
        by_cases hz : cc = 0
        · have HL2 : Hid (remove xi (add ⟨xi, xc, xm, xt, xs⟩ l).2 = (0, l)) := Lib.hid (by rw [(HAZ.out hz).2.2]; exact del_ins (x := ⟨xi, xc, xm, xt, xs⟩) (HAZ.out hz).2.1)
          clear hcc HAZ HAN
          subst hz
          generalize (add ⟨xi, xc, xm, xt, xs⟩ l).2 = l2 at HADD HL2 HAG
          have hfew2 := HAG.out.few
          go_wp2_with fail
          refine HADD.out.mono ?_
          rintro e w6 ⟨rfl, st⟩
          obtain ⟨v6, b6, F6⟩ := HB5.out.stepQ st
          have HS6 := Lib.hid (HB5.out.bytes HS5.out F6)
          have HB6 := Lib.hid b6
          clear st b6 F6 d0 d1 d2 d3 d4
          have d0 := (BX.out w6 HB6.out.frm).1
          have HREM := Lib.hid (remove_any w6 wx.heap.size b v6 l2 xi HB6.out.q (by omega))
          unfold RemovePost at HREM
          rw [HL2.out] at HREM
          go_wp2_with fail
          refine HREM.out.mono ?_
          rintro e w7 ⟨rfl, st⟩
          obtain ⟨v7, b7, F7⟩ := HB6.out.stepQ st
          have HS7 := Lib.hid (HB6.out.bytes HS6.out F7)
          have HB7 := Lib.hid b7
          clear st b7 F7 d0
          go_wp2_with fail
          refine (encode_any w7 wx.heap.size b v7 l HB7.out.q HG.out HWD.out).mono ?_
          rintro e w8 ⟨v8, rfl, hs8, f8⟩
          obtain ⟨A8, c8, rfl, _⟩ := hs8.shape
          have HS8 := Lib.hid hs8
          have HB8 := Lib.hid (HB7.out.fresh f8)
          have HS58 := Lib.hid (HS7.out.fresh f8)
          clear hs8 f8
          have HDEC := Lib.hid (decode_any w8 A5 c5 (enc l) HS58.out.rd (enc_le HG.out HWD.out) h55 h56)
          rw [decP_enc HG.out HWD.out] at HDEC
          obtain ⟨el, hel⟩ : ∃ el, el = enc l := ⟨_, rfl⟩
          rw [← hel] at HS8 HS58 HDEC ⊢
          clear hel
          go_wp2_with fail
          refine HDEC.out.mono ?_
          rintro e w9 ⟨b9, v9, rfl, q9, f9⟩
          have HQ9 := Lib.hid q9
          have HF9 := Lib.hid f9
          clear q9 f9
          go_wp2_with fail
          refine (all_any w9 w8.heap.size b9 v9 l HQ9.out (by omega)).mono ?_
          rintro e w10 ⟨v10, rfl, hs10, f10⟩
          obtain ⟨A10, c10, rfl, _⟩ := hs10.shape
          have HS10 := Lib.hid hs10
          have HF10 := Lib.hid (HF9.out.trans f10)
          clear hs10 f10
          go_wp2_with fail
          refine (all_any w10 wx.heap.size b v7 l (HB8.out.q.fresh HF10.out) (by omega)).mono ?_
          rintro e w11 ⟨v11, rfl, hs11, f11⟩
          obtain ⟨A11, c11, rfl, _⟩ := hs11.shape
          have HS11 := Lib.hid hs11
          have HF11 := Lib.hid f11
          clear hs11 f11
          go_wp2_with fail
          refine (sameWaits_any w11 A10 A11 c10 c11 l (HS10.out.fresh HF11.out).rd HS11.out.rd (by omega) HWD.out).mono ?_
          rintro e w12 ⟨rfl, f12⟩
          have HF12 := Lib.hid ((HF10.out.trans HF11.out).trans f12)
          clear f12
          have q5 : (convert 50 9 (.slice A5 el.length c5)).run Try.prog w12 = .ok (.string (str el)) w12 := conv_u c5 (HS58.out.fresh HF12.out).rd rfl
          have q8 : (convert 50 9 (.slice A8 el.length c8)).run Try.prog w12 = .ok (.string (str el)) w12 := conv_u c8 (HS8.out.fresh HF12.out).rd rfl
          have HFL := Lib.hid ((FX.out.trans HB8.out.frm).trans HF12.out)
          go_wp2_with fail
          go_ret
          exact ⟨by simp, Fresh.below HFL.out⟩
        · have HL2 := Lib.hid (HAN.out hz)
          rw [HL2.out] at HADD
          clear hcc HAZ HAN HL2
          have hcb : (cc == 0) = false := by rw [beq_eq_false_iff_ne]; exact hz
          go_wp2_with fail
          refine HADD.out.mono ?_
          rintro e w7 ⟨rfl, st⟩
          obtain ⟨v7, b7, F7⟩ := HB5.out.stepQ st
          have HS7 := Lib.hid (HB5.out.bytes HS5.out F7)
          have HB7 := Lib.hid b7
          clear st b7 F7 d0 d1 d2 d3 d4
          go_wp2_with fail
          refine (encode_any w7 wx.heap.size b v7 l HB7.out.q HG.out HWD.out).mono ?_
          rintro e w8 ⟨v8, rfl, hs8, f8⟩
          obtain ⟨A8, c8, rfl, _⟩ := hs8.shape
          have HS8 := Lib.hid hs8
          have HB8 := Lib.hid (HB7.out.fresh f8)
          have HS58 := Lib.hid (HS7.out.fresh f8)
          clear hs8 f8
          have HDEC := Lib.hid (decode_any w8 A5 c5 (enc l) HS58.out.rd (enc_le HG.out HWD.out) h55 h56)
          rw [decP_enc HG.out HWD.out] at HDEC
          obtain ⟨el, hel⟩ : ∃ el, el = enc l := ⟨_, rfl⟩
          rw [← hel] at HS8 HS58 HDEC ⊢
          clear hel
          go_wp2_with fail
          refine HDEC.out.mono ?_
          rintro e w9 ⟨b9, v9, rfl, q9, f9⟩
          have HQ9 := Lib.hid q9
          have HF9 := Lib.hid f9
          clear q9 f9
          go_wp2_with fail
          refine (all_any w9 w8.heap.size b9 v9 l HQ9.out (by omega)).mono ?_
          rintro e w10 ⟨v10, rfl, hs10, f10⟩
          obtain ⟨A10, c10, rfl, _⟩ := hs10.shape
          have HS10 := Lib.hid hs10
          have HF10 := Lib.hid (HF9.out.trans f10)
          clear hs10 f10
          go_wp2_with fail
          refine (all_any w10 wx.heap.size b v7 l (HB8.out.q.fresh HF10.out) (by omega)).mono ?_
          rintro e w11 ⟨v11, rfl, hs11, f11⟩
          obtain ⟨A11, c11, rfl, _⟩ := hs11.shape
          have HS11 := Lib.hid hs11
          have HF11 := Lib.hid f11
          clear hs11 f11
          go_wp2_with fail
          refine (sameWaits_any w11 A10 A11 c10 c11 l (HS10.out.fresh HF11.out).rd HS11.out.rd (by omega) HWD.out).mono ?_
          rintro e w12 ⟨rfl, f12⟩
          have HF12 := Lib.hid ((HF10.out.trans HF11.out).trans f12)
          clear f12
          have q5 : (convert 50 9 (.slice A5 el.length c5)).run Try.prog w12 = .ok (.string (str el)) w12 := conv_u c5 (HS58.out.fresh HF12.out).rd rfl
          have q8 : (convert 50 9 (.slice A8 el.length c8)).run Try.prog w12 = .ok (.string (str el)) w12 := conv_u c8 (HS8.out.fresh HF12.out).rd rfl
          have HFL := Lib.hid ((FX.out.trans HB8.out.frm).trans HF12.out)
          go_wp2_with fail
          go_ret
          exact ⟨by simp, Fresh.below HFL.out⟩
theorem back_walk (w : World) (s : Option Addr × Nat × List Raw) (hs : IsL w 72 sf7 (sq7 w) s) (x : Int × Int × Int × Int × Nat) (hx : wq5 x) :
    Calls Try.prog 8 #[sv s, .agg (wf5 x).toArray] w fun e w' => e = .returned (.bool true) ∧ Below w.heap.size w w' := by
  obtain ⟨A, cap, l⟩ := s
  obtain ⟨xi, xc, xm, xt, xs⟩ := x
  have hle : l.length ≤ cap := hs.le
  have hm : cap ≤ maxLen := hs.most
  unfold maxLen at hm
  have hr : Rd w w.heap.size A ((l.map toStp).flatMap scells) := by rw [← map_stp]; exact hs.rd
  have hxs : xs < 18446744073709551616 := of_decide_eq_true hx.2.2.2.2
  have h := back_law w A cap (l.map toStp) hr (stp_ok hs.all) (by rw [List.length_map]; omega) xi xc xm xt xs hxs
  rw [List.length_map] at h
  exact h
end Go.Proofs.Ythofodjklogfgaa

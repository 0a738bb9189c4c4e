/- The law QueueFirst walked. -/
import Derived.Test.YthofodjklogfgaaQueue21
import Derived.Test.YthofodjklogfgaaOpen
namespace Go.Proofs.Ythofodjklogfgaa
open Go.RowKit QueueM
attribute [local go_sem] run_store_float

theorem fval_open (o : Option Wt) (hw : ∀ x, o = some x → x.score < 18446744073709551616) : ∃ (y : Wt) (isb : Bool), fval o = .tuple #[.agg #[.int .i64 y.id, .int .i64 y.cls, .int .i64 y.many, .int .i64 y.time, .float .f64 y.score], .bool isb] ∧ y.score < 18446744073709551616 ∧
    (∀ x, o = some x → y = x ∧ isb = true) ∧ (o = none → isb = false) := by
  cases o with
  | none => exact ⟨⟨0, 0, 0, 0, 0⟩, false, rfl, by simp, fun _ h => (by cases h), fun _ => rfl⟩
  | some y => exact ⟨y, true, rfl, hw y rfl, fun x h => by injection h with h; exact ⟨h, rfl⟩, fun h => (by cases h)⟩
theorem both_new {w w2 : World} {b : Nat} (q : IsQ w2 w.heap.size b (.slice none 0 0) []) (f : Fresh w w2) :
    Both w b w2.heap.size (.slice none 0 0) (.slice none 0 0) [] [] (w2.alloc (.cells #[.slice none 0 0] 44)) :=
  ⟨q.fresh ((Frm.refl _ _).alloc _), ⟨Blk.new w2 _ _, f.size, Sl.nil _ _ _ _⟩, f.alloc _⟩
set_option maxRecDepth 100000 in
set_option maxHeartbeats 8000000 in
theorem first_law (w : World) (A : Option Addr) (cap : Nat) (ss : List Stp) (hA : Rd w w.heap.size A (ss.flatMap scells)) (hok : ∀ s ∈ ss, StpOk w s) (hlen : ss.length ≤ 9223372036854775807)
    (Z : Option Addr) (zc : Nat) (zs : List Int) (hZ : Rd w w.heap.size Z (zs.map (Value.int .i64))) (hzl : zs.length ≤ 9223372036854775807) :
    Calls Try.prog 5 #[.slice A ss.length cap, .slice Z zs.length zc] w fun e w' => e = .returned (.bool true) ∧ Below w.heap.size w w' := by
  have HA := Lib.hid hA
  have HZ := Lib.hid hZ
  have HOK := Lib.hid hok
  clear hA hok hZ
  go_enter Try.func5, Try.ntmps5
  go_wp2_with fail
  refine (awake_any w).mono ?_
  rintro e w1 ⟨rfl, f1⟩
  have HF1 := Lib.hid f1
  clear f1
  go_wp2_with fail
  refine (new_any w1).mono ?_
  rintro e w2 ⟨rfl, q1, f2⟩
  have HB := Lib.hid (both_new (q1.less (B' := w.heap.size) HF1.out.size) (HF1.out.trans f2))
  clear q1 f2
  generalize w1.heap.size = b at HB
  by_cases hz1000 : zs.length ≤ 1000
  · have hzi : ¬ (1000 : Int) < (zs.length : Int) := by omega
    go_wp2_with fail
    obtain ⟨w3, hw3⟩ : ∃ w3, w3 = w2.alloc (.cells #[.slice none 0 0] 44) := ⟨_, rfl⟩
    rw [← hw3] at HB ⊢
    clear hw3
    generalize w2.heap.size = c at HB
    go_loopw [8] (fun v8 wr => ∃ (i : Nat) (v u : Value) (l : List Wt), i ≤ ss.length ∧ i ≤ 100 ∧ v8 = .int .i64 (i : Int) ∧ Both w b c v u l l wr ∧ QueueM.Good l ∧ Words l) (fun v8 _ => ss.length - (intOf v8).toNat)
    case atStart => exact ⟨0, _, _, _, by omega, by omega, rfl, HB.out, QueueM.Good.nil, fun x hx => by cases hx⟩
    case round =>
      clear HB
      obtain ⟨i, v, u, l, hin, hi100, rfl, hb, hg, hwd⟩ := hrel
      have HB := Lib.hid hb
      have HG := Lib.hid hg
      have HWD := Lib.hid hwd
      have hi0 : (0 : Int) ≤ (i : Int) := by omega
      have hib : (i : Int) ≤ 100 := by omega
      have hfew := hg.few
      clear hb hg hwd
      by_cases hgo : i < ss.length ∧ i < 100
      · obtain ⟨hil, hi2⟩ := hgo
        have hili : (i : Int) < (ss.length : Int) := by omega
        have hi2i : (i : Int) < 100 := by omega
        obtain ⟨bl, o, rfl, _, p7⟩ := seven_at ((HA.out.fresh (Nat.le_refl _) HB.out.frm).more HB.out.frm.size) hil
        have hsok := HOK.out _ (List.getElem_mem hil)
        obtain ⟨s, hs⟩ : ∃ s, s = ss[i] := ⟨_, rfl⟩
        rw [← hs] at p7 hsok
        clear hs
        have HDO := Lib.hid (do_any w wr b c v u l s HB.out HG.out HWD.out ⟨hsok.wid, hsok.word, hsok.le, hsok.most, (hsok.rd.fresh (Nat.le_refl _) HB.out.frm).more HB.out.frm.size⟩)
        obtain ⟨so, ⟨xi, xc, xm, xt, xs⟩, ⟨lA, lc, lz⟩⟩ := s
        obtain ⟨c0, c1, c2, c3, c4, c5, c6⟩ := p7
        dsimp only [sv] at c0 c1 c2 c3 c4 c5 c6
        simp only [scells, sv] at HDO
        clear hsok
        go_wp2_with fail
        refine HDO.out.mono ?_
        rintro e w5 ⟨rfl, v2, u2, l2, b2, g2, wd2⟩
        have HB2 := Lib.hid b2
        have HG2 := Lib.hid g2
        have HWD2 := Lib.hid wd2
        clear b2 g2 wd2
        go_wp2_with fail
        go_roundw
        case rel => exact ⟨i + 1, v2, u2, l2, by omega, by omega, by go_num, HB2.out, HG2.out, HWD2.out⟩
        case measure => simp [intOf]; omega
      · have HEND : Hid (¬ (i : Int) < (ss.length : Int) ∨ ((i : Int) < (ss.length : Int) ∧ ¬ (i : Int) < 100)) := Lib.hid (by
          by_cases h : i < ss.length
          · exact .inr ⟨by omega, fun h2 => hgo ⟨h, by omega⟩⟩
          · exact .inl (by omega))
        have HRZ := Lib.hid ((HZ.out.fresh (Nat.le_refl _) HB.out.frm).more HB.out.frm.size)
        have HFI := Lib.hid (first_any wr w.heap.size b v l Z zc zs HB.out.q (by omega) HG.out.right HRZ.out hzl)
        obtain ⟨y, isb, hfo, hyw, hsome, hnone⟩ := fval_open (first zs l) (fun x hx => HWD.out x (first_mem hx))
        unfold FirstPost at HFI
        rw [hfo] at HFI
        have HSOME := Lib.hid hsome
        have HNONE := Lib.hid hnone
        have HYW := Lib.hid hyw
        clear hfo hsome hnone hyw hgo
        obtain ⟨yi, yc, ym, yt, ys⟩ := y
        dsimp only at HFI
        rcases HEND.out with hh | ⟨hh, hh2⟩
        all_goals
          go_wp2_with fail
          refine HFI.out.mono ?_
          rintro e w5 ⟨rfl, f5⟩
          obtain ⟨w6, hw6⟩ : ∃ w6, w6 = w5.alloc (.cells #[.int .i64 yi, .int .i64 yc, .int .i64 ym, .int .i64 yt, .float .f64 ys] 28) := ⟨_, rfl⟩
          have HB6 : Hid (Both w b c v u l l w6) := Lib.hid (HB.out.fresh (f5.trans (by rw [hw6]; exact (Frm.refl _ w5).alloc _)))
          have BY : Hid (∀ w', Fresh w6 w' → Five w' w5.heap.size 0 ⟨yi, yc, ym, yt, ys⟩) := Lib.hid fun w' F => by
            have B1 : Blk w6 w5.heap.size 28 (wcells ⟨yi, yc, ym, yt, ys⟩).toArray := by rw [hw6]; exact Blk.new w5 _ _
            exact five_blk (B1.frm F (fun f => f))
          clear f5
          go_wp2_with fail
          rw [← hw6]
          clear hw6
          refine (all_any w6 w.heap.size b v l HB6.out.q (by omega)).mono ?_
          rintro e w7 ⟨u7, rfl, hs7, f7⟩
          obtain ⟨A7, c7, rfl, hc7, hc72, _⟩ := hs7.shape
          unfold maxLen at hc72
          have HS7 := Lib.hid hs7
          have HF7 := Lib.hid f7
          have HB7 := Lib.hid (HB6.out.fresh f7)
          clear f7 hs7
          go_wp2_with fail
          go_loopw [12] (fun v12 wr => ∃ j : Nat, j ≤ l.length ∧ v12 = .int .i64 (j : Int) ∧ (∀ k (hk : k < l.length), k < j → room zs l[k] = false) ∧ Fresh w7 wr) (fun v12 _ => l.length - (intOf v12).toNat)
          case atStart => exact ⟨0, by omega, rfl, fun _ _ h => by omega, Frm.refl _ _⟩
          case round =>
            obtain ⟨j, hj, rfl, hno, hf⟩ := hrel
            have HNO := Lib.hid hno
            have HFQ := Lib.hid hf
            have hj0 : (0 : Int) ≤ (j : Int) := by omega
            clear hno hf
            by_cases hjl : j < l.length
            · have HNX : Hid (room zs l[j] = false → ∀ k (hk : k < l.length), k < j + 1 → room zs l[k] = false) := Lib.hid fun hr k hk hkj => by
                rcases Nat.lt_or_ge k j with h | h
                · exact HNO.out k hk h
                · obtain rfl : k = j := by omega
                  exact hr
              have HAT : Hid (room zs l[j] = true → (⟨yi, yc, ym, yt, ys⟩ : Wt) = l[j] ∧ isb = true) := Lib.hid fun hr => HSOME.out _ (first_at hjl HNO.out hr)
              obtain ⟨bl, ol, rfl, _, p5⟩ := five_at ((HS7.out.rd.fresh (Nat.le_refl _) HFQ.out).more HFQ.out.size) hjl
              have hrt := (right_iff _).1 (HG.out.right _ (List.getElem_mem hjl))
              obtain ⟨x, hx⟩ : ∃ x, x = l[j] := ⟨_, rfl⟩
              rw [← hx] at p5 hrt HNX HAT
              clear hx
              obtain ⟨xi, xc, xm, xt, xs⟩ := x
              have HP5 := Lib.hid p5
              have d0 : ∀ n, (wr.drewN n).cell? ⟨bl, ol + j * 5, none⟩ = some (.int .i64 xi) := fun _ => p5.1
              have d1 : ∀ n, (wr.drewN n).cell? ⟨bl, ol + j * 5 + 1, none⟩ = some (.int .i64 xc) := fun _ => p5.2.1
              have d2 : ∀ n, (wr.drewN n).cell? ⟨bl, ol + j * 5 + 2, none⟩ = some (.int .i64 xm) := fun _ => p5.2.2.1
              dsimp only at hrt
              have hji : (j : Int) < (l.length : Int) := by omega
              obtain ⟨k, rfl⟩ := Int.eq_ofNat_of_zero_le hrt.2.2.1
              have hk0 : (0 : Int) ≤ (k : Int) := by omega
              clear hrt p5
              by_cases hkl : k < zs.length
              · obtain ⟨bz, oz, rfl, hz1⟩ := left_at ((HZ.out.fresh (Nat.le_refl _) (HB7.out.frm.trans HFQ.out)).more (HB7.out.frm.trans HFQ.out).size) hkl
                have z1 : ∀ n, (wr.drewN n).cell? ⟨bz, oz + k, none⟩ = some (.int .i64 (zs.getD k 0)) := fun _ => hz1
                have hkli : (k : Int) < (zs.length : Int) := by omega
                have HROOM : Hid (room zs ⟨xi, (k : Int), xm, xt, xs⟩ = decide (xm ≤ zs.getD k 0)) := Lib.hid (by unfold room; simp [hkl])
                generalize zs.getD k 0 = z at z1 HROOM
                clear hz1
                by_cases hm : xm ≤ z
                · have hyes : room zs ⟨xi, (k : Int), xm, xt, xs⟩ = true := by rw [HROOM.out]; simpa using hm
                  obtain ⟨hyx, hisb⟩ := HAT.out hyes
                  injection hyx with e1 e2 e3 e4 e5
                  subst e1 e2 e3 e4 e5 hisb
                  clear hyes
                  go_wp2_with fail
                  go_quiet (fail)
                  rename_i nq
                  have TEN : Hid (∀ w', Fresh (wr.drewN nq) w' → w'.cell? ⟨bl, ol + j * 5, none⟩ = some (.int .i64 yi) ∧ w'.cell? ⟨bl, ol + j * 5 + 1, none⟩ = some (.int .i64 (k : Int)) ∧ w'.cell? ⟨bl, ol + j * 5 + 2, none⟩ = some (.int .i64 ym) ∧ w'.cell? ⟨bl, ol + j * 5 + 3, none⟩ = some (.int .i64 yt) ∧ w'.cell? ⟨bl, ol + j * 5 + 4, none⟩ = some (.float .f64 ys) ∧
                    w'.cell? ⟨w5.heap.size, 0, none⟩ = some (.int .i64 yi) ∧ w'.cell? ⟨w5.heap.size, 1, none⟩ = some (.int .i64 (k : Int)) ∧ w'.cell? ⟨w5.heap.size, 2, none⟩ = some (.int .i64 ym) ∧ w'.cell? ⟨w5.heap.size, 3, none⟩ = some (.int .i64 yt) ∧ w'.cell? ⟨w5.heap.size, 4, none⟩ = some (.float .f64 ys)) := Lib.hid fun w' F => by
                    have a := (show Five (wr.drewN nq) _ _ _ from HP5.out).fresh F
                    have c := BY.out w' ((HF7.out.trans (HFQ.out.drewN nq)).trans F)
                    exact ⟨a.1, a.2.1, a.2.2.1, a.2.2.2.1, a.2.2.2.2, c.1, c.2.1, c.2.2.1, c.2.2.2.1, c.2.2.2.2⟩
                  have HFE := Lib.hid ((HB7.out.frm.trans HFQ.out).drewN nq)
                  clear d0 d1 d2 z1
                  generalize wr.drewN nq = wz at TEN HFE ⊢
                  have HSW : Hid (Calls Try.prog 18 #[.agg #[.int .i64 yi, .int .i64 (k : Int), .int .i64 ym, .int .i64 yt, .float .f64 ys], .agg #[.int .i64 yi, .int .i64 (k : Int), .int .i64 ym, .int .i64 yt, .float .f64 ys]] wz.drew fun e w' => e = .returned (.bool true) ∧ Fresh wz.drew w') := Lib.hid (sameWait_any ⟨yi, (k : Int), ym, yt, ys⟩ HYW.out wz.drew)
                  go_wp2_with fail
                  go_region_held3 (fun w' => w'.cell? ⟨bl, ol + j * 5, none⟩ = some (.int .i64 yi) ∧ w'.cell? ⟨bl, ol + j * 5 + 1, none⟩ = some (.int .i64 (k : Int)) ∧ w'.cell? ⟨bl, ol + j * 5 + 2, none⟩ = some (.int .i64 ym) ∧ w'.cell? ⟨bl, ol + j * 5 + 3, none⟩ = some (.int .i64 yt) ∧ w'.cell? ⟨bl, ol + j * 5 + 4, none⟩ = some (.float .f64 ys) ∧
                    w'.cell? ⟨w5.heap.size, 0, none⟩ = some (.int .i64 yi) ∧ w'.cell? ⟨w5.heap.size, 1, none⟩ = some (.int .i64 (k : Int)) ∧ w'.cell? ⟨w5.heap.size, 2, none⟩ = some (.int .i64 ym) ∧ w'.cell? ⟨w5.heap.size, 3, none⟩ = some (.int .i64 yt) ∧ w'.cell? ⟨w5.heap.size, 4, none⟩ = some (.float .f64 ys))
                    (first | exact TEN.out _ (Frm.refl _ _) | exact TEN.out _ ((Frm.refl _ _).drew) | exact TEN.out _ (((Frm.refl _ _).drew).trans HFs.out))
                    (first
                      | (go_at_call 18; refine (HSW.out).mono ?_; rintro e ws ⟨rfl, fs⟩; have HFs := Lib.hid fs; clear fs))
                  have HFL := Lib.hid ((HFE.out.drew).trans HFs.out)
                  go_wp2_with fail
                  go_ret
                  exact ⟨by simp, Fresh.below HFL.out⟩
                · have hnot : room zs ⟨xi, (k : Int), xm, xt, xs⟩ = false := by rw [HROOM.out]; simpa using hm
                  have HNX2 := Lib.hid (HNX.out hnot)
                  clear hnot
                  go_wp2_with fail
                  go_quiet (fail)
                  go_wp2_with fail
                  go_roundw
                  case rel => exact ⟨j + 1, by omega, by go_num, HNX2.out, HFQ.out.drewN _⟩
                  case measure => simp [intOf]; omega
              · have hnot : room zs ⟨xi, (k : Int), xm, xt, xs⟩ = false := by
                  unfold room
                  have : decide ((k : Int) < (zs.length : Int)) = false := by simp; omega
                  rw [this]; rfl
                have HNX2 := Lib.hid (HNX.out hnot)
                have hd1 : decide ((k : Int) < (zs.length : Int)) = false := by simp; omega
                have hd2 : decide (k < zs.length) = false := by simp; omega
                clear hnot
                go_wp2_with fail
                go_quiet (fail)
                go_wp2_with fail
                go_roundw
                case rel => exact ⟨j + 1, by omega, by go_num, HNX2.out, HFQ.out.drewN _⟩
                case measure => simp [intOf]; omega
            · have hji : ¬ (j : Int) < (l.length : Int) := by omega
              have hisb := HNONE.out (first_none (fun k hk => HNO.out k hk (by omega)))
              subst hisb
              have HFL := Lib.hid (HB7.out.frm.trans HFQ.out)
              go_wp2_with fail
              go_ret
              exact ⟨by simp, Fresh.below HFL.out⟩
  · have hzi : (1000 : Int) < (zs.length : Int) := by omega
    have HFL := Lib.hid HB.out.frm
    go_wp2_with fail
    go_ret
    exact ⟨by simp, Fresh.below HFL.out⟩
theorem first_walk (w : World) (s : Option Addr × Nat × List Raw) (hs : IsL w 72 sf7 (sq7 w) s) (Z : Option Addr) (zc : Nat) (zs : List Int) (hz : IsInts .i64 w Z zc zs) (_ : zc * 8 ≤ 140737488351232) :
    Calls Try.prog 5 #[sv s, .slice Z zs.length zc] w fun e w' => e = .returned (.bool true) ∧ Below w.heap.size w w' := by
  obtain ⟨A, cap, l⟩ := s
  have hle : l.length ≤ cap := hs.le
  have hm : cap ≤ maxLen := hs.most
  have hle2 : zs.length ≤ zc := hz.le
  have hm2 : zc ≤ maxLen := hz.most
  unfold maxLen at hm hm2
  have hr : Rd w w.heap.size A ((l.map toStp).flatMap scells) := by rw [← map_stp]; exact hs.rd
  have h := first_law w A cap (l.map toStp) hr (stp_ok hs.all) (by rw [List.length_map]; omega) Z zc zs hz.rd (by omega)
  rw [List.length_map] at h
  exact h
end Go.Proofs.Ythofodjklogfgaa

/- What the reference's Scan computes. -/
import Derived.Test.YtlceembcehokoaaScanMath
import Derived.Test.YtlceembcehokoaaConv
namespace Go.Proofs.Ytlceembcehokoaa.Rc
set_option maxRecDepth 100000
open Go.RowKit
theorem conv_u {w : World} {B : Nat} {A : Option Addr} {bs : List UInt8} (c : Nat) (h : Rd w B A (bs.map bv)) {n : Nat} (hn : n = bs.length) : (convert 26 9 (.slice A n c)).run Try.prog w = .ok (.string (str bs)) w :=
  conv_bytes _ _ _ Try.underlying26 Try.underlying5 Try.underlying9 c h hn

theorem num_lt (d : List UInt8) : num d < 256 ^ d.length := by
  have h : ∀ (d : List UInt8) (n k : Nat), n < 256 ^ k → d.foldl (fun n b => n * 256 + b.toNat) n < 256 ^ (k + d.length) := by
    intro d
    induction d with
    | nil => intro n k h; simpa using h
    | cons b r ih =>
      intro n k h
      have hb := b.toNat_lt
      have h1 : n * 256 + b.toNat < 256 ^ (k + 1) := by rw [Nat.pow_succ]; omega
      have := ih _ _ h1
      simp only [List.foldl_cons, List.length_cons]
      rw [show k + (r.length + 1) = k + 1 + r.length by omega]
      exact this
  have := h d 0 0 (by simp)
  rw [Nat.zero_add] at this
  exact this
theorem num_take {d : List UInt8} {k : Nat} (h : k < d.length) : num (d.take (k + 1)) = num (d.take k) * 256 + d[k].toNat := by rw [List.take_succ_eq_append_getElem h, num_snoc]
/-- a slice of slices of the call's own -/
def Lists (w : World) (B : Nat) (v : Value) (l : List (List UInt8)) : Prop :=
  ∃ bl : List Bs, Sl w B 26 1 v bl.length (bl.map bsv) ∧ (∀ b ∈ bl, Sl w B 5 1 (bsv b) b.2.2.length (b.2.2.map bv)) ∧ bl.map (·.2.2) = l
theorem Lists.nil (w : World) (B : Nat) : Lists w B (.slice none 0 0) [] := ⟨[], Sl.nil _ _ _ _, by simp, rfl⟩
theorem Lists.fresh {w w' : World} {B : Nat} {v : Value} {l : List (List UInt8)} (h : Lists w B v l) (F : Fresh w w') : Lists w' B v l := by
  obtain ⟨bl, h1, h2, h3⟩ := h
  exact ⟨bl, h1.fresh F, fun b hb => (h2 b hb).fresh F, h3⟩
theorem info_bs : (Try.prog.info? 26).map (fun i => (i.zero, i.size, i.bytes)) = some (some (.slice none 0 0), 1, 24) := by kernel_rfl
theorem sl_apart {w : World} {B B' : Nat} {e e' : TypeId} {z z' n n' : Nat} {v v' : Value} {xs xs' : List Value} (h : Sl w B e z v n xs) (h' : Sl w B' e' z' v' n' xs') (hne : e ≠ e') : ∀ k, v.ownBlock = some k → v'.ownBlock ≠ some k := by
  intro k hk he
  rcases h'.2 with ⟨rfl, _⟩ | ⟨g, o, cap, cur, rfl, _, hb, _⟩
  · simp [Value.ownBlock] at he
  · have : g = k := by simpa [Value.ownBlock] using he
    subst this
    exact h.apart hb hne hk
theorem scanF_cnt : ∀ (f : Nat) (bs : List UInt8), (scanF f bs).1.length * 8 ≤ bs.length := by
  intro f
  induction f with
  | zero => intro bs; simp [scanF]
  | succ f ih =>
    intro bs
    rw [scanF]
    cases hs : scan1 bs with
    | none => simp
    | some x =>
      have h1 := scan1_len hs
      have h2 := ih (bs.drop (8 + x.length))
      rw [List.length_drop] at h2
      simp only [List.length_cons]
      omega
theorem Told.cnt {bs : List UInt8} {pre : List (List UInt8)} {a : Nat} (h : Told bs pre a) : pre.length * 8 ≤ bs.length := by
  have h1 := scanF_cnt bs.length bs
  have h2 : (scan bs).1.length = pre.length + (scan (bs.drop a)).1.length := by rw [h.2]; simp
  unfold scan at h2
  omega
def ScanPost (w : World) (bs : List UInt8) (e : Ending) (w' : World) : Prop :=
  ∃ v, e = .returned (.tuple #[v, .int .i64 ((scan bs).2 : Int)]) ∧ Lists w' w.heap.size v (scan bs).1 ∧ Fresh w w'
theorem scan_end {w wr : World} {bs : List UInt8} {pre : List (List UInt8)} {a : Nat} {v : Value} (hT : Told bs pre a) (hn : scan1 (bs.drop a) = none) (hL : Lists wr w.heap.size v pre) (hF : Fresh w wr) :
    ScanPost w bs (.returned (.tuple #[v, .int .i64 (a : Int)])) wr := by
  have h := hT.stop hn
  exact ⟨v, by rw [h], by rw [h]; exact hL, hF⟩
set_option maxRecDepth 100000 in
set_option maxHeartbeats 4000000 in
theorem refScan_any (w : World) (A : Option Addr) (cap : Nat) (bs : List UInt8) (hb : Rd w w.heap.size A (bs.map bv)) (hl : bs.length ≤ 1000000) (hle : bs.length ≤ cap) (hcap : cap ≤ 140737488351232) :
    Calls Try.prog 60 #[.slice A bs.length cap] w fun e w' => ScanPost w bs e w' := by
  have HB := Lib.hid hb
  clear hb
  go_enter Try.func60, Try.ntmps60
  go_wp2_with fail
  go_loopw [4, 5] (fun v4 v5 wr => ∃ (pre : List (List UInt8)) (a : Nat) (v : Value), v = v4 ∧ v5 = .int .i64 (a : Int) ∧ Told bs pre a ∧ Lists wr w.heap.size v pre ∧ Fresh w wr) (fun _ v5 _ => bs.length - (intOf v5).toNat)
  case atStart => exact ⟨[], 0, _, rfl, rfl, Told.start bs, Lists.nil _ _, Frm.refl _ _⟩
  case round =>
    obtain ⟨pre, a, v4, hv4, rfl, hT, hL, hF⟩ := hrel
    subst hv4
    have ha := hT.1
    have HT := Lib.hid hT
    have HL := Lib.hid hL
    have HF := Lib.hid hF
    clear hT hL hF
    obtain ⟨p, hp⟩ : ∃ p, p = a + 8 := ⟨_, rfl⟩
    have hpa : (a : Int) + 8 = (p : Int) := by omega
    have HP := Lib.hid hp
    clear hp
    by_cases h8 : a + 8 ≤ bs.length
    · have HRD : Hid (Rd wr wr.heap.size A (bs.map bv)) := Lib.hid ((HB.out.fresh (Nat.le_refl _) HF.out).more HF.out.size)
      have hdl : (bs.drop a).length = bs.length - a := List.length_drop
      have h8i : (p : Int) ≤ (bs.length : Int) := by omega
      go_wp2_with fail
      go_loopw [6, 7] (fun v6 v7 w' => ∃ k : Nat, k ≤ 4 ∧ v6 = .int .i64 (num ((bs.drop a).take k) : Int) ∧ v7 = .int .i64 (k : Int) ∧ wr = w') (fun _ v7 _ => 4 - (intOf v7).toNat)
      case atStart => exact ⟨0, by omega, rfl, rfl, rfl⟩
      case round =>
        obtain ⟨k, hk, rfl, rfl, rfl⟩ := hrel
        by_cases h4 : k < 4
        · obtain ⟨b, o, rfl, _, hc⟩ := HRD.out.at_ (k := a + k) (by simp; omega)
          rw [List.getElem_map] at hc
          have hN := num_take (d := bs.drop a) (k := k) (by omega)
          rw [List.getElem_drop] at hN
          have hnl : num ((bs.drop a).take k) < 16777216 := by
            have h1 := num_lt ((bs.drop a).take k)
            have h2 : 256 ^ ((bs.drop a).take k).length ≤ 256 ^ 3 := Nat.pow_le_pow_right (by omega) (by rw [List.length_take]; omega)
            omega
          have hcb := (bs[a + k]).toNat_lt
          generalize bs[a + k] = c at hc hN hcb
          unfold bv at hc
          generalize num ((bs.drop a).take k) = m at hN hnl
          have HN := Lib.hid hN
          clear hN
          have hk0 : (0 : Int) ≤ (a : Int) + (k : Int) := by omega
          have hk1 : ((a : Int) + (k : Int)).toNat = a + k := by omega
          have hk2 : (a : Int) + (k : Int) < (bs.length : Int) := by omega
          have hk4 : (k : Int) < 4 := by omega
          go_wp2_with fail
          go_roundw
          case rel => exact ⟨k + 1, by omega, by rw [HN.out]; go_num, by go_num, trivial⟩
          case measure => simp [intOf]; omega
        · obtain rfl : k = 4 := by omega
          have hn32 : num ((bs.drop a).take 4) < 4294967296 := by
            have h1 := num_lt ((bs.drop a).take 4)
            have h2 : 256 ^ ((bs.drop a).take 4).length ≤ 256 ^ 4 := Nat.pow_le_pow_right (by omega) (by rw [List.length_take]; omega)
            omega
          obtain ⟨n, hn⟩ : ∃ n, n = num ((bs.drop a).take 4) := ⟨_, rfl⟩
          have HN := Lib.hid hn
          rw [← hn] at hn32 ⊢
          clear hn
          by_cases q1 : 65536 < n
          · have d1 : decide (65536 < n) = true := by simpa using q1
            have q1i : (65536 : Int) < (n : Int) := by omega
            have HS := Lib.hid (show scan1 (bs.drop a) = none from by unfold scan1; exact if_neg (fun h => by have := h.2.1; rw [← HN.out] at this; omega))
            go_wp2_with fail
            go_ret2
            exact scan_end HT.out HS.out HL.out HF.out
          · have d1 : decide (65536 < n) = false := by simp; omega
            by_cases q2 : bs.length < a + 8 + n
            · have d2 : decide ((bs.length : Int) < (p : Int) + (n : Int)) = true := by simp; omega
              have q2i : (bs.length : Int) < (p : Int) + (n : Int) := by omega
              have HS := Lib.hid (show scan1 (bs.drop a) = none from by unfold scan1; exact if_neg (fun h => by have := h.2.2.1; rw [← HN.out] at this; omega))
              go_wp2_with fail
              go_ret2
              exact scan_end HT.out HS.out HL.out HF.out
            · have d2 : decide ((bs.length : Int) < (p : Int) + (n : Int)) = false := by simp; omega
              have k1 : (0 : Int) ≤ (p : Int) := by omega
              have k3 : ((p : Int) + (n : Int)).toNat = p + n := by omega
              have k4 : (p : Int) ≤ (p : Int) + (n : Int) := by omega
              have k5 : p + n ≤ cap := by omega
              have k7 : (p : Int) + (n : Int) ≤ (cap : Int) := by omega
              have k8 : (0 : Int) ≤ (a : Int) := by omega
              have k9 : (a : Int) ≤ (p : Int) + (n : Int) := by omega
              have k10 : p + n - a = 8 + n := by omega
              obtain ⟨A2, hA2⟩ : ∃ A2, (if cap = p then A else Option.map (fun x => x.add p) A) = A2 := ⟨_, rfl⟩
              obtain ⟨A3, hA3⟩ : ∃ A3, (if cap = a then A else Option.map (fun x => x.add a) A) = A3 := ⟨_, rfl⟩
              obtain ⟨x, hx⟩ : ∃ x, x = ((bs.drop a).drop 8).take n := ⟨_, rfl⟩
              have hxl : x.length = n := by rw [hx, List.length_take, List.length_drop, List.length_drop]; omega
              have R2 : Hid (Rd wr wr.heap.size A2 (x.map bv)) := Lib.hid (by
                have h := ((HRD.out.cut (k := p) (cap := cap) (by simpa using hle)).take n)
                rw [hA2, ← List.map_drop, ← List.map_take] at h
                rw [hx, List.drop_drop, ← HP.out]
                exact h)
              have R3 : Hid (Rd wr wr.heap.size A3 (((bs.drop a).take (8 + n)).map bv)) := Lib.hid (by
                have h := ((HRD.out.cut (k := a) (cap := cap) (by simpa using hle)).take (8 + n))
                rw [hA3, ← List.map_drop, ← List.map_take] at h
                exact h)
              have HX := Lib.hid hx
              have HXL := Lib.hid hxl
              clear hx
              go_wp2_with fail
              have hput := refPut_any wr A2 (cap - p) x R2.out (by omega) (by omega) (by unfold maxLen; omega)
              rw [hxl] at hput
              refine hput.mono ?_
              rintro e w1 ⟨v1, rfl, hs1, hf1⟩
              rw [HXL.out] at hs1
              obtain ⟨A1, c1, rfl, _, _, _⟩ := hs1.shape
              have hrl : (rec x).length = n + 8 := by rw [rec_len, HXL.out]
              have htl : ((bs.drop a).take (8 + n)).length = 8 + n := by rw [List.length_take]; omega
              have q1 : ∀ m, (convert 26 9 (.slice A1 (n + 8) c1)).run Try.prog (w1.drewN m) = .ok (.string (str (rec x))) (w1.drewN m) := fun m => conv_u c1 (hs1.rd.drewN m) hrl.symm
              have q2 : ∀ m, (convert 26 9 (.slice A3 (8 + n) (cap - a))).run Try.prog (w1.drewN m) = .ok (.string (str ((bs.drop a).take (8 + n)))) (w1.drewN m) := fun m => conv_u (cap - a) ((R3.out.fresh (Nat.le_refl _) hf1).drewN m) htl.symm
              have HF1 := Lib.hid hf1
              have HSC := Lib.hid (show scan1 (bs.drop a) = if rec x = (bs.drop a).take (8 + n) then some x else none from by
                unfold scan1
                rw [← HN.out, ← HX.out]
                by_cases hc : rec x = (bs.drop a).take (8 + n)
                · rw [if_pos hc, if_pos ⟨by omega, by omega, by omega, hc⟩]
                · rw [if_neg hc, if_neg (fun h => hc h.2.2.2)])
              have sp1 : IntKind.i64.wrap (p : Int) = (p : Int) := IntWalk.i64_in _ (by omega)
              have sp2 : IntKind.i64.wrap ((p : Int) + (n : Int)) = (p : Int) + (n : Int) := IntWalk.i64_in _ (by omega)
              clear hs1 hf1 hrl htl hput hxl
              by_cases hc : rec x = (bs.drop a).take (8 + n)
              · have HS := Lib.hid (show scan1 (bs.drop a) = some x by rw [HSC.out, if_pos hc])
                rw [← hc] at q2
                generalize str (rec x) = ss at q1 q2
                clear hc HSC
                go_wp2_with fail
                go_quiet (fail)
                rename_i nq
                have hL2 : Lists (w1.drewN nq) w.heap.size v4 pre := (HL.out.fresh HF1.out).fresh ((Frm.refl _ w1).drewN nq)
                have HF2 : Hid (Fresh w (w1.drewN nq)) := Lib.hid ((HF.out.trans HF1.out).trans ((Frm.refl _ w1).drewN nq))
                have hR2 : Rd (w1.drewN nq) (w1.drewN nq).heap.size A2 (x.map bv) := ((R2.out.fresh (Nat.le_refl _) HF1.out).more HF1.out.size).drewN nq
                generalize w1.drewN nq = w2 at HF2 hR2 hL2
                have hsz2 := HF2.out.size
                obtain ⟨bl, hb1, hb2, hb3⟩ := hL2
                have hbll : bl.length = pre.length := by rw [← hb3, List.length_map]
                rw [hbll] at hb1
                obtain ⟨A4, c4, rfl, hc41, hc42, _⟩ := hb1.shape
                clear hbll
                have hcnt := HT.out.cnt
                have S0 : Hid (Sl (w2.alloc (.cells #[] 5)) w2.heap.size 5 1 (.slice (some ⟨w2.heap.size, 0, none⟩) 0 0) 0 []) := Lib.hid (sl_new w2 _ [] _ (Nat.le_refl _) (by simp [maxLen]))
                have R20 := Lib.hid (hR2.alloc (Nat.le_refl _) (.cells #[] 5))
                have HB1 := Lib.hid hb1
                have HB2 := Lib.hid hb2
                have HB3 := Lib.hid hb3
                obtain ⟨i0, hi, hz0, hz1, hz2⟩ := info_parts info_u8
                obtain ⟨i1, hi1, hy0, hy1, hy2⟩ := info_parts info_bs
                clear q1 q2 hb1 hb2 hb3 hR2 R2 R3
                go_wp2_with (first
                  | (at_builtin; refine wpList_append_sl _ rfl (.tmp 66) (.tmp 67) _ rfl w2.heap.size 5 i0 _ 1 1 Try.underlying26 hi hz0 hz1 hz2 rfl (by omega) _ _ _ rfl S0.out _ _ _ _ _ rfl (by rw [List.length_map, HXL.out, Nat.mul_one]) R20.out (bv_one _) (by unfold maxLen; omega) (by omega) (by simp) ?_; intro v6 w6 hs6 hf6 ha6; rw [Nat.zero_add, List.nil_append] at hs6; have HF6 : Hid (Fresh w2 w6) := Lib.hid (((Frm.refl _ w2).alloc _).trans' hf6 (fun i hi hk => by have := own_at hk; omega)); obtain ⟨A6, c6, rfl, hc61, hc62, _⟩ := hs6.shape; have HS6 := Lib.hid hs6; have hsz6 := HF6.out.size; clear hs6 hf6 ha6; have HB16 := Lib.hid ((HB1.out.fresh HF6.out).alloc (.cells #[.slice A6 n c6] 26)); have R60 := Lib.hid (rd_one w6 (.slice A6 n c6) 26))
                  | (at_builtin; refine wpList_append_sl _ rfl (.tmp 65) (.tmp 69) _ rfl w.heap.size 26 i1 _ 1 24 Try.underlying50 hi1 hy0 hy1 hy2 rfl (by omega) _ _ _ rfl HB16.out _ _ 1 _ _ rfl (by rfl) R60.out (fun u hu => by simp at hu; subst hu; rfl) (by unfold maxLen; omega) (by omega) (by simp; omega) ?_; intro v9 w9 hs9 hf9 ha9; have HS9 := Lib.hid hs9; have HF9 := Lib.hid hf9; clear hs9 hf9 ha9))
                go_roundw
                case rel =>
                  have hlen : (bl ++ [((A6, c6, x) : Bs)]).length = pre.length + 1 := by rw [← HB3.out]; simp
                  refine ⟨pre ++ [x], p + n, v9, rfl, by go_num, ?_, ⟨bl ++ [(A6, c6, x)], ?_, ?_, by rw [List.map_append, HB3.out]; rfl⟩, ?_⟩
                  · have h := HT.out.step HS.out
                    rwa [HXL.out, ← HP.out] at h
                  · have h := HS9.out
                    rw [hlen, List.map_append]
                    show Sl _ _ _ _ _ _ (bl.map bsv ++ [.slice A6 x.length c6])
                    rw [HXL.out]
                    exact h
                  · intro b hb
                    rcases List.mem_append.1 hb with hb | hb
                    · have h := ((HB2.out b hb).fresh HF6.out).alloc (.cells #[.slice A6 n c6] 26)
                      exact h.frm HF9.out (sl_apart h HB16.out (by decide))
                    · rw [List.mem_singleton] at hb
                      subst hb
                      have h := (HS6.out.less hsz2).alloc (.cells #[.slice A6 n c6] 26)
                      show Sl _ _ _ _ (.slice A6 x.length c6) x.length _
                      rw [HXL.out]
                      exact h.frm HF9.out (sl_apart h HB16.out (by decide))
                  · exact ((HF2.out.trans HF6.out).alloc _).trans' HF9.out (fun i hi hk => by have := (HB1.out.lt _ hk).1; omega)
                case measure => simp [intOf]; omega
              · have HS := Lib.hid (show scan1 (bs.drop a) = none by rw [HSC.out, if_neg hc])
                have hss : ((str (rec x)).toList == (str ((bs.drop a).take (8 + n))).toList) = false := by
                  rw [str_toList, str_toList]
                  simpa using hc
                generalize str (rec x) = s1 at q1 hss
                generalize str ((bs.drop a).take (8 + n)) = s2 at q2 hss
                clear hc HSC
                go_wp2_with fail
                go_quiet (fail)
                go_wp2_with fail
                go_ret2
                exact scan_end HT.out HS.out ((HL.out.fresh HF1.out).fresh ((Frm.refl _ w1).drewN _)) ((HF.out.trans HF1.out).trans ((Frm.refl _ w1).drewN _))
    · have HS := Lib.hid (show scan1 (bs.drop a) = none from by unfold scan1; exact if_neg (fun h => by have := h.1; rw [List.length_drop] at this; omega))
      have h8i : ¬ (p : Int) ≤ (bs.length : Int) := by omega
      go_wp2_with fail
      go_ret2
      exact scan_end HT.out HS.out HL.out HF.out
end Go.Proofs.Ytlceembcehokoaa.Rc

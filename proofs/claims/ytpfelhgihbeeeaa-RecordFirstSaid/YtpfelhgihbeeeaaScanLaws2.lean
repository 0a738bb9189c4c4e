/- The laws RecordCut, RecordFirst walked. -/
import Derived.Test.YtpfelhgihbeeeaaScanLaws
namespace Go.Proofs.Ytpfelhgihbeeeaa
open Go.RowKit

/-- of records cut off anywhere just those that are whole are told -/
theorem cut_scan {l : List (List UInt8)} (hall : ∀ x ∈ l, x.length ≤ 65536) {k a : Nat} (hk : k ≤ l.length) (h1 : (recs (l.take k)).length ≤ a) (h2 : k < l.length → a < (recs (l.take (k + 1))).length) :
    scan ((recs l).take a) = (l.take k, (recs (l.take k)).length) := by
  have e : recs l = recs (l.take k) ++ recs (l.drop k) := by unfold recs; rw [← List.flatMap_append, List.take_append_drop]
  rw [e, List.take_append, List.take_of_length_le h1, scan_recs _ _ (fun x hx => hall x (List.mem_of_mem_take hx))]
  have hn : scan1 ((recs (l.drop k)).take (a - (recs (l.take k)).length)) = none := by
    rcases Nat.eq_or_lt_of_le hk with he | hlt
    · rw [he, List.drop_length]
      simp [recs, scan1]
    · have h3 := h2 hlt
      rw [List.take_succ_eq_append_getElem hlt, recs_snoc, List.length_append, rec_len] at h3
      rw [List.drop_eq_getElem_cons hlt, recs_cons, List.take_append_of_le_length (by rw [rec_len]; omega)]
      exact scan1_cut _ _ (hall _ (List.getElem_mem hlt)) (by omega)
  rw [scan_none hn]
  simp
theorem ends_get {l : List (List UInt8)} {k : Nat} (h : k < l.length) : (ends l)[k]? = some (recs (l.take (k + 1))).length := by
  unfold ends
  simp [h]
theorem bss_lists {w : World} {A : Option Addr} {cap : Nat} {bl : List Bs} (h : IsBss w w.heap.size A cap bl) : RdLs w A (bl.map (·.2.2)) := ⟨bl, h.rd, fun b hb => (h.all b hb).rd, rfl⟩
theorem RdLs.take {w : World} {A : Option Addr} {l : List (List UInt8)} (h : RdLs w A l) (k : Nat) : RdLs w A (l.take k) := by
  obtain ⟨bl, h1, h2, h3⟩ := h
  refine ⟨bl.take k, ?_, fun b hb => h2 b (List.mem_of_mem_take hb), by rw [List.map_take, h3]⟩
  rw [List.map_take]
  exact h1.take k
theorem pair_eq {α β : Type} {p : α × β} {a : α} {b : β} (h : p = (a, b)) : p.1 = a ∧ p.2 = b := by rw [h]; exact ⟨rfl, rfl⟩
set_option maxRecDepth 100000 in
set_option maxHeartbeats 4000000 in
theorem cut_any (w : World) (A : Option Addr) (cap : Nat) (l : List (List UInt8)) (hb : RdLs w A l) (hle : l.length ≤ cap) (hcap : cap ≤ 140737488351232) (t : Int) (ht : t ≤ 9223372036854775807) :
    Calls Try.prog 6 #[.slice A l.length cap, .int .i64 t] w fun e w' => e = .returned (.bool true) ∧ Below w.heap.size w w' := by
  have HB := Lib.hid hb
  clear hb
  go_enter Try.func6, Try.ntmps6
  go_wp2_with fail
  refine (awake_any w).mono ?_
  rintro e w1 ⟨rfl, hf1⟩
  have HF1 := Lib.hid hf1
  have HB1 := Lib.hid (HB.out.fresh hf1)
  clear hf1
  go_wp2_with fail
  refine (whole_any w1 A cap l HB1.out (by omega)).mono ?_
  rintro e w2 ⟨hf2, ⟨hfit, v, v2, rfl, hs, hs2⟩ | ⟨_, rfl⟩⟩
  · have HF2 := Lib.hid (HF1.out.trans hf2)
    have HB2 := Lib.hid (HB1.out.fresh hf2)
    have HFT := Lib.hid hfit
    have HS := Lib.hid hs
    have HS2 := Lib.hid hs2
    have hlen := hfit.len
    have hcnt := recs_cnt l
    obtain ⟨A3, c3, rfl, h31, h32, _⟩ := hs.shape
    obtain ⟨A4, c4, rfl, h41, h42, _⟩ := hs2.shape
    unfold maxLen at h32 h42
    clear hfit hs hs2 hf2
    by_cases ht0 : t < 0
    · go_wp2_with fail
      go_ret
      exact ⟨rfl, Fresh.below HF2.out⟩
    · obtain ⟨n, rfl⟩ := Int.eq_ofNat_of_zero_le (show 0 ≤ t by omega)
      obtain ⟨a, ha⟩ : ∃ a, n % ((recs l).length + 1) = a := ⟨_, rfl⟩
      have ham : a ≤ (recs l).length := by have := Nat.mod_lt n (show 0 < (recs l).length + 1 by omega); rw [ha] at this; omega
      have hai : (n : Int) % (((recs l).length : Int) + 1) = (a : Int) := by rw [← ha, Int.natCast_emod]; rfl
      have h8 : ¬ ((recs l).length : Int) < 8 * (l.length : Int) := by omega
      have h81 : ¬ (recs l).length < 8 * l.length := by omega
      have hlm : (8 * (l.length : Int)) ≤ 600000 := by omega
      have hnn : (0 : Int) ≤ (n : Int) := by omega
      clear ha ht0
      go_wp2_with fail
      go_loopw [9, 10] (fun v9 v10 w' => ∃ k : Nat, k ≤ l.length ∧ v9 = .int .i64 (k : Int) ∧ v10 = .int .i64 ((recs (l.take k)).length : Int) ∧ (recs (l.take k)).length ≤ a ∧ w2 = w') (fun v9 _ _ => l.length - (intOf v9).toNat)
      case atStart => exact ⟨0, by omega, rfl, by simp [recs], by simp [recs], rfl⟩
      case round =>
        obtain ⟨k, hk, rfl, rfl, hka, rfl⟩ := hrel
        have hk0 : (0 : Int) ≤ k := by omega
        by_cases hgo : k < l.length ∧ (recs (l.take (k + 1))).length ≤ a
        · obtain ⟨hkl, hnx⟩ := hgo
          have hki : (k : Int) < (l.length : Int) := by omega
          obtain ⟨b, o, rfl, _, hc⟩ := HS2.out.rd.at_ (k := k) (by simp [ends]; omega)
          rw [List.getElem_map, (List.getElem?_eq_some_iff.1 (ends_get hkl)).2] at hc
          unfold nv at hc
          have hnxi : ((recs (l.take (k + 1))).length : Int) ≤ (a : Int) := by omega
          generalize hx : (recs (l.take (k + 1))).length = y at hc hnx hnxi
          have HX := Lib.hid hx
          clear hx
          go_wp2_with fail
          go_roundw
          case rel => exact ⟨k + 1, by omega, by go_num, by rw [HX.out], by rw [HX.out]; exact hnx, trivial⟩
          case measure => simp [intOf]; omega
        · have HCS := Lib.hid (cut_scan HFT.out.all hk hka (fun h => by rcases Nat.lt_or_ge a (recs (l.take (k + 1))).length with h3 | h3; exact h3; exact absurd ⟨h, h3⟩ hgo))
          have hbl : ((recs l).take a).length = a := by rw [List.length_take]; omega
          have hRa : Rd w2 w2.heap.size A3 (((recs l).take a).map bv) := by rw [List.map_take]; exact HS.out.rd.take a
          have hsc := scan_any w2 A3 c3 ((recs l).take a) hRa (by rw [hbl]; omega) (by rw [hbl]; omega) (by omega)
          rw [hbl] at hsc
          have HSC := Lib.hid hsc
          have hac : a ≤ c3 := by omega
          have haci : (a : Int) ≤ (c3 : Int) := by omega
          have hkc : k ≤ cap := by omega
          have hkci : (k : Int) ≤ (cap : Int) := by omega
          have htl : (l.take k).length = k := by rw [List.length_take]; omega
          have HTL := Lib.hid htl
          have HKL : Hid (k = l.length ∨ (k < l.length ∧ a < (recs (l.take (k + 1))).length)) := Lib.hid (by
            rcases Nat.lt_or_ge k l.length with h | h
            · exact .inr ⟨h, by rcases Nat.lt_or_ge a (recs (l.take (k + 1))).length with h3 | h3; exact h3; exact absurd ⟨h, h3⟩ hgo⟩
            · exact .inl (by omega))
          clear hsc hRa hbl hgo htl
          rcases HKL.out with he | ⟨hkl, hnx⟩
          · have hki : ¬ (k : Int) < (l.length : Int) := by omega
            clear he
            go_wp2_with fail
            refine HSC.out.mono ?_
            rintro e w3 ⟨v3, rfl, hl3, hf3⟩
            obtain ⟨e1, e2⟩ := pair_eq HCS.out
            rw [e1] at hl3
            rw [e2]
            obtain ⟨A5, c5, rfl, h51, h52, r5⟩ := hl3.reads
            have HF3 := Lib.hid (HF2.out.trans hf3)
            have r6 := (HB2.out.fresh hf3).take k
            have hsm := same_any w3 A5 A c5 cap (l.take k) r5 r6 (by rw [HTL.out]; omega)
            rw [HTL.out] at hsm ⊢
            have HSM := Lib.hid hsm
            clear hsm r5 r6 hl3 hf3 e1 e2 h51
            generalize (recs (l.take k)).length = sz
            go_wp2_with fail
            refine HSM.out.mono ?_
            rintro e w4 ⟨rfl, q, rfl⟩
            go_wp2_with fail
            go_ret
            exact ⟨by simp, Fresh.below (HF3.out.drewN q)⟩
          · have hki : (k : Int) < (l.length : Int) := by omega
            obtain ⟨b, o, rfl, _, hc⟩ := HS2.out.rd.at_ (k := k) (by simp [ends]; omega)
            rw [List.getElem_map, (List.getElem?_eq_some_iff.1 (ends_get hkl)).2] at hc
            unfold nv at hc
            generalize (recs (l.take (k + 1))).length = y at hc hnx
            have hnxi : ¬ (y : Int) ≤ (a : Int) := by omega
            clear hnx
            go_wp2_with fail
            refine HSC.out.mono ?_
            rintro e w3 ⟨v3, rfl, hl3, hf3⟩
            obtain ⟨e1, e2⟩ := pair_eq HCS.out
            rw [e1] at hl3
            rw [e2]
            obtain ⟨A5, c5, rfl, h51, h52, r5⟩ := hl3.reads
            have HF3 := Lib.hid (HF2.out.trans hf3)
            have r6 := (HB2.out.fresh hf3).take k
            have hsm := same_any w3 A5 A c5 cap (l.take k) r5 r6 (by rw [HTL.out]; omega)
            rw [HTL.out] at hsm ⊢
            have HSM := Lib.hid hsm
            clear hsm r5 r6 hl3 hf3 e1 e2 h51
            generalize (recs (l.take k)).length = sz
            go_wp2_with fail
            refine HSM.out.mono ?_
            rintro e w4 ⟨rfl, q, rfl⟩
            go_wp2_with fail
            go_ret
            exact ⟨by simp, Fresh.below (HF3.out.drewN q)⟩
  · go_wp2_with fail
    go_ret
    exact ⟨rfl, Fresh.below (HF1.out.trans hf2)⟩
theorem wf_i64 {n : Int} (h : (Lit.int .i64 n).wf = true) : -9223372036854775808 ≤ n ∧ n ≤ 9223372036854775807 := by simpa [Lit.wf, IntKind.min, IntKind.max, IntKind.signed, IntKind.bits] using h
theorem cut_walk (w : World) (s : Option Addr × Nat × List (Option Addr × Nat × List Int)) (hs : IsL w 24 (fun s => [sv s]) (IsL w 1 u8f u8q) s) (t : Int) (wt : (Lit.int .i64 t).wf = true) :
    Calls Try.prog 6 #[sv s, .int .i64 t] w fun e w' => e = .returned (.bool true) ∧ Below w.heap.size w w' := by
  obtain ⟨bl, hv, hb⟩ := to_bss hs
  have hr := hs.reach
  rw [hv]
  have h := cut_any w s.1 s.2.1 (bl.map (·.2.2)) (bss_lists hb) (by rw [List.length_map]; exact hb.le) (by unfold reachBytes at hr; omega) t (wf_i64 wt).2
  rw [List.length_map] at h
  exact h
set_option maxRecDepth 100000 in
set_option maxHeartbeats 4000000 in
theorem first_any (w : World) (A : Option Addr) (cap : Nat) (l : List (List UInt8)) (hb : RdLs w A l) (hle : l.length ≤ cap) (hcap : cap ≤ 140737488351232) (B : Option Addr) (cb : Nat) (rest : List UInt8) (hr : Rd w w.heap.size B (rest.map bv)) (hrl : rest.length ≤ cb) (hcb : cb ≤ 140737488351232) :
    Calls Try.prog 9 #[.slice A l.length cap, .slice B rest.length cb] w fun e w' => e = .returned (.bool true) ∧ Below w.heap.size w w' := by
  obtain ⟨i0, hi, hz0, hz1, hz2⟩ := info_parts info_u8
  have HB := Lib.hid hb
  have HR := Lib.hid hr
  clear hb hr
  go_enter Try.func9, Try.ntmps9
  go_wp2_with fail
  refine (awake_any w).mono ?_
  rintro e w1 ⟨rfl, hf1⟩
  have HF1 := Lib.hid hf1
  have HB1 := Lib.hid (HB.out.fresh hf1)
  clear hf1
  go_wp2_with fail
  refine (whole_any w1 A cap l HB1.out (by omega)).mono ?_
  rintro e w2 ⟨hf2, ⟨hfit, v, v2, rfl, hs, hs2⟩ | ⟨_, rfl⟩⟩
  · have HF2 := Lib.hid (HF1.out.trans hf2)
    have HB2 := Lib.hid (HB1.out.fresh hf2)
    have HFT := Lib.hid hfit
    have HS := Lib.hid hs
    have hlen := hfit.len
    have hcnt := recs_cnt l
    obtain ⟨A3, c3, rfl, h31, h32, _⟩ := hs.shape
    obtain ⟨A4, c4, rfl, h41, h42, _⟩ := hs2.shape
    unfold maxLen at h32 h42
    clear hfit hs hs2 hf2
    by_cases q0 : 100000 < rest.length
    · have q0i : (100000 : Int) < (rest.length : Int) := by omega
      go_wp2_with fail
      go_ret
      exact ⟨rfl, Fresh.below HF2.out⟩
    · have q0i : ¬ (100000 : Int) < (rest.length : Int) := by omega
      have S0 : Hid (Sl (w2.alloc (.cells #[] 5)) w2.heap.size 5 1 (.slice (some ⟨w2.heap.size, 0, none⟩) 0 0) 0 []) := Lib.hid (sl_new w2 _ [] _ (Nat.le_refl _) (by simp [maxLen]))
      have R1 := Lib.hid ((HS.out.alloc (.cells #[] 5)).rd)
      have RB : Hid (∀ w', Fresh w2 w' → Rd w' w'.heap.size B (rest.map bv)) := Lib.hid fun w' F => (HR.out.fresh (Nat.le_refl _) (HF2.out.trans F)).more (HF2.out.trans F).size
      go_wp2_with (first
        | (at_builtin; refine wpList_append_sl _ rfl (.tmp 31) (.tmp 32) _ rfl w2.heap.size 5 i0 _ 1 1 Try.underlying22 hi hz0 hz1 hz2 rfl (by omega) _ _ _ rfl S0.out _ _ _ _ _ rfl (by rw [List.length_map, Nat.mul_one]) R1.out (bv_one _) (by unfold maxLen; omega) (by omega) (by simp) ?_; intro v6 w6 hs6 hf6 ha6; rw [Nat.zero_add, List.nil_append] at hs6; have HF6 : Hid (Fresh w2 w6) := Lib.hid (((Frm.refl _ w2).alloc _).trans' hf6 (fun i hi hk => by have := own_at hk; omega)); obtain ⟨A6, c6, rfl, hc61, hc62, _⟩ := hs6.shape; have HS6 := Lib.hid hs6; have hsz6 := HF6.out.size; clear hs6 hf6 ha6)
        | (at_builtin; refine wpList_append_sl _ rfl (.tmp 33) (.tmp 34) _ rfl w2.heap.size 5 i0 _ 1 1 Try.underlying22 hi hz0 hz1 hz2 rfl (by omega) _ _ _ rfl HS6.out _ _ _ _ _ rfl (by rw [List.length_map, Nat.mul_one]) (RB.out _ HF6.out) (bv_one _) (by unfold maxLen; omega) (by omega) hsz6 ?_; intro v7 w7 hs7 hf7 ha7; rw [← List.map_append] at hs7; have HF7 : Hid (Fresh w2 w7) := Lib.hid (HF6.out.trans' hf7 (fun i hi hk => by have := (HS6.out.lt _ hk).1; omega)); obtain ⟨A7, c7, rfl, hc71, hc72, _⟩ := hs7.shape; have HS7 := Lib.hid hs7; clear hs7 hf7 ha7))
      unfold maxLen at hc72
      have hln : (recs l ++ rest).length = (recs l).length + rest.length := List.length_append
      have hsc := scan_any w7 A7 c7 (recs l ++ rest) HS7.out.rd (by omega) (by omega) (by omega)
      rw [hln] at hsc
      refine hsc.mono ?_
      rintro e w3 ⟨v3, rfl, hl3, hf3⟩
      have hsr := scan_recs rest l HFT.out.all
      obtain ⟨e1, e2⟩ := pair_eq hsr
      rw [e1] at hl3
      rw [e2]
      obtain ⟨A5, c5, rfl, h51, h52, r5⟩ := hl3.reads
      have HF3 := Lib.hid ((HF2.out.trans HF7.out).trans hf3)
      have r6 := HB2.out.fresh (HF7.out.trans hf3)
      have r5' := r5.take l.length
      rw [List.take_append_of_le_length (Nat.le_refl _), List.take_length] at r5'
      have HSM := Lib.hid (same_any w3 A5 A c5 cap l r5' r6 (by omega))
      rw [List.length_append] at h51 ⊢
      have n1 : ¬ (((recs l).length : Int) + ((scan rest).2 : Int) < ((recs l).length : Int)) := by omega
      have n2 : ¬ ((l.length : Int) + ((scan rest).1.length : Int) < (l.length : Int)) := by omega
      have n3 : decide ((recs l).length + (scan rest).2 < (recs l).length) = false := by simp
      have n4 : decide (l.length + (scan rest).1.length < l.length) = false := by simp
      have n5 : l.length ≤ c5 := by omega
      have n6 : (l.length : Int) ≤ (c5 : Int) := by omega
      unfold maxLen at h52
      clear hsc hsr e1 e2 hl3 r5 r5' r6 hf3 hln
      generalize (scan rest).2 = z1 at n1 n3 ⊢
      generalize (scan rest).1.length = z2 at n2 n4 h51 ⊢
      go_wp2_with fail
      refine HSM.out.mono ?_
      rintro e w4 ⟨rfl, q, rfl⟩
      go_wp2_with fail
      go_ret
      exact ⟨by simp, Fresh.below (HF3.out.drewN q)⟩
  · go_wp2_with fail
    go_ret
    exact ⟨rfl, Fresh.below (HF1.out.trans hf2)⟩
theorem first_walk (w : World) (s : Option Addr × Nat × List (Option Addr × Nat × List Int)) (hs : IsL w 24 (fun s => [sv s]) (IsL w 1 u8f u8q) s) (B : Option Addr) (cb : Nat) (rest : List UInt8) (hr : IsBytes w B cb rest) (hcb : cb ≤ 140737488351232) :
    Calls Try.prog 9 #[sv s, .slice B rest.length cb] w fun e w' => e = .returned (.bool true) ∧ Below w.heap.size w w' := by
  obtain ⟨bl, hv, hb⟩ := to_bss hs
  have hre := hs.reach
  rw [hv]
  have h := first_any w s.1 s.2.1 (bl.map (·.2.2)) (bss_lists hb) (by rw [List.length_map]; exact hb.le) (by unfold reachBytes at hre; omega) B cb rest hr.rd hr.le hcb
  rw [List.length_map] at h
  exact h
end Go.Proofs.Ytpfelhgihbeeeaa

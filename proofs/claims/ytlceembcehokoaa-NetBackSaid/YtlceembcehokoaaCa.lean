/- Co1, Co2, Co3. (Put together by mg.py.) -/
import Derived.Test.YtlceembcehokoaaNet5
import Derived.BigQuiet
import Derived.IntWalk
import Derived.Deep.Cut
import Derived.Deep.RegionHeld3
namespace Go.Proofs.Ytlceembcehokoaa
open Go.RowKit
set_option linter.unusedVariables false
set_option maxRecDepth 100000

abbrev ivs (l : List Int) : List Value := l.map (Value.int .i64)
theorem ret_b {a b : Bool} (h : a = b) : Ending.returned (.bool a) = .returned (.bool b) := by rw [h]
theorem keepWithin_any (n m : Int) (w : World) : Calls Try.prog 107 #[.int .i64 n, .int .i64 m] w fun e w' => e = .returned (.bool (decide (0 ≤ n) && decide (n ≤ m))) ∧ w' = w := by
  go_enter Try.func107, Try.ntmps107
  by_cases h1 : 0 ≤ n
  · by_cases h2 : n ≤ m
    · go_wp2_with fail
      go_ret
      exact ⟨by simp [h1, h2], rfl⟩
    · go_wp2_with fail
      go_ret
      exact ⟨by simp [h2], rfl⟩
  · go_wp2_with fail
    go_ret
    exact ⟨by rw [show decide (0 ≤ n) = false by simpa using h1]; rfl, rfl⟩
/-- they rise, from one on, up to 15 -/
def risesF : Int → List Int → Bool
  | _, [] => true
  | last, x :: r => (decide (last < x) && decide (x ≤ 15)) && risesF x r
theorem risesF_low {last x : Int} {r : List Int} (h : x ≤ last) : risesF last (x :: r) = false := by
  unfold risesF
  rw [show decide (last < x) = false by simp; omega]
  rfl
theorem risesF_high {last x : Int} {r : List Int} (h : 15 < x) : risesF last (x :: r) = false := by
  unfold risesF
  rw [show decide (x ≤ 15) = false by simp; omega, Bool.and_false]
  rfl
theorem risesF_on {last x : Int} {r : List Int} (h1 : last < x) (h2 : x ≤ 15) : risesF last (x :: r) = risesF x r := by
  rw [risesF, decide_eq_true h1, decide_eq_true h2]
  rfl
theorem keepRises_any (w : World) (A : Option Addr) (cap : Nat) (zs : List Int) (hA : Rd w w.heap.size A (ivs zs)) (hl : zs.length ≤ 100000) :
    Calls Try.prog 105 #[.slice A zs.length cap] w fun e w' => e = .returned (.bool (risesF 0 zs)) ∧ w' = w := by
  have HA := Lib.hid hA
  clear hA
  go_enter Try.func105, Try.ntmps105
  go_wp2_with fail
  go_loop [3, 8] (fun v3 v8 => ∃ (i : Nat) (last : Int), i ≤ zs.length ∧ v3 = .int .i64 last ∧ v8 = .int .i64 (i : Int) ∧ risesF last (zs.drop i) = risesF 0 zs) (fun _ v8 => zs.length - (intOf v8).toNat)
  case atStart => exact ⟨0, 0, by omega, rfl, rfl, rfl⟩
  case round =>
    obtain ⟨i, last, hi, rfl, rfl, hr⟩ := hrel
    have hi0 : (0 : Int) ≤ (i : Int) := by omega
    by_cases hlt : i < zs.length
    · have hlti : (i : Int) < (zs.length : Int) := by omega
      obtain ⟨b, o, rfl, _, hc⟩ := HA.out.at_ (k := i) (by simpa using hlt)
      rw [List.getElem_map] at hc
      rw [List.drop_eq_getElem_cons hlt] at hr
      generalize zs[i] = x at hc hr
      have HR := Lib.hid hr
      clear hr
      by_cases h1 : x ≤ last
      · go_wp2_with fail
        go_ret
        exact ⟨ret_b (by rw [← HR.out, risesF_low h1]), rfl⟩
      · by_cases h2 : 15 < x
        · go_wp2_with fail
          go_ret
          exact ⟨ret_b (by rw [← HR.out, risesF_high h2]), rfl⟩
        · go_wp2_with fail
          go_round
          case rel => exact ⟨i + 1, x, by omega, rfl, by go_num, by rw [← HR.out, risesF_on (by omega) (by omega)]⟩
          case measure => simp [intOf]; omega
    · have hlti : ¬ (i : Int) < (zs.length : Int) := by omega
      have HR := Lib.hid hr
      clear hr
      go_wp2_with fail
      go_ret
      exact ⟨ret_b (by rw [← HR.out, List.drop_eq_nil_of_le (by omega)]; rfl), rfl⟩
set_option maxHeartbeats 4000000 in
theorem refRises_any (w : World) (A : Option Addr) (cap : Nat) (zs : List Int) (hA : Rd w w.heap.size A (ivs zs)) (hl : zs.length ≤ 100000) :
    Calls Try.prog 121 #[.slice A zs.length cap] w fun e w' => e = .returned (.bool (risesF 0 zs)) ∧ Fresh w w' := by
  have HA := Lib.hid hA
  clear hA
  go_enter Try.func121, Try.ntmps121
  go_wp2_with fail
  go_loopw [3] (fun v3 wr => ∃ (i : Nat) (last : Int), i ≤ zs.length ∧ v3 = .int .i64 (i : Int) ∧ risesF last (zs.drop i) = risesF 0 zs ∧ 0 ≤ last ∧ (i = 0 → last = 0) ∧ (0 < i → zs[i - 1]? = some last) ∧ Fresh w wr) (fun v3 _ => zs.length - (intOf v3).toNat)
  case atStart => exact ⟨0, 0, by omega, rfl, rfl, by omega, fun _ => rfl, fun h => by omega, Frm.refl _ _⟩
  case round =>
    obtain ⟨i, last, hi, rfl, hr, hl0, hz, hp, hf⟩ := hrel
    have hi0 : (0 : Int) ≤ (i : Int) := by omega
    have HF := Lib.hid hf
    have HA2 := Lib.hid (HA.out.fresh (Nat.le_refl _) hf)
    clear hf
    by_cases hlt : i < zs.length
    · have hlti : (i : Int) < (zs.length : Int) := by omega
      obtain ⟨b, o, rfl, _, hc⟩ := HA2.out.at_ (k := i) (by simpa using hlt)
      rw [List.getElem_map] at hc
      have hpc : 0 < i → wr.cell? ⟨b, o + (i - 1), none⟩ = some (.int .i64 last) := fun h => by
        obtain ⟨b', o', hA', _, hc'⟩ := HA2.out.at_ (k := i - 1) (by simp; omega)
        injection hA' with hA'
        injection hA' with e1 e2
        subst e1 e2
        rw [hc', List.getElem_map]
        have := hp h
        rw [List.getElem?_eq_getElem (by omega)] at this
        rw [Option.some.inj this]
      rw [List.drop_eq_getElem_cons hlt] at hr
      have HX : Hid (zs[i]? = some zs[i]) := Lib.hid (List.getElem?_eq_getElem hlt)
      generalize zs[i] = x at hc hr HX
      have HR := Lib.hid hr
      have HZ := Lib.hid hz
      have HPC := Lib.hid hpc
      clear hr hz hp hpc
      by_cases h1 : x < 1
      · have d1 : decide (x < 1) = true := by simpa using h1
        have hlow : x ≤ last := by omega
        go_wp2_with fail
        go_quiet (fail)
        rename_i nq
        have HF2 : Hid (Fresh w (wr.drewN nq)) := Lib.hid (HF.out.drewN nq)
        go_wp2_with fail
        go_ret
        exact ⟨ret_b (by rw [← HR.out, risesF_low hlow]), HF2.out⟩
      · have d1 : decide (x < 1) = false := by simpa using h1
        by_cases h2 : 15 < x
        · have d2 : decide (15 < x) = true := by simpa using h2
          go_wp2_with fail
          go_quiet (fail)
          rename_i nq
          have HF2 : Hid (Fresh w (wr.drewN nq)) := Lib.hid (HF.out.drewN nq)
          go_wp2_with fail
          go_ret
          exact ⟨ret_b (by rw [← HR.out, risesF_high h2]), HF2.out⟩
        · have d2 : decide (15 < x) = false := by simpa using h2
          by_cases h3 : 0 < i
          · obtain ⟨j, hj⟩ : ∃ j, j = i - 1 := ⟨_, rfl⟩
            have hcj : wr.cell? ⟨b, o + j, none⟩ = some (.int .i64 last) := by rw [hj]; exact HPC.out h3
            have hw1 : IntKind.i64.wrap ((i : Int) - 1) = (j : Int) := by rw [show (i : Int) - 1 = (j : Int) by omega]; exact IntWalk.i64_in _ (by omega)
            have hj0 : (0 : Int) ≤ (j : Int) := by omega
            have hj1 : (j : Int) < (zs.length : Int) := by omega
            have hip : (0 : Int) < (i : Int) := by omega
            have hid : decide ((0 : Int) < (i : Int)) = true := by simpa using h3
            have hidn : decide (0 < i) = true := by simpa using h3
            clear hj
            by_cases h4 : x ≤ last
            · have d4 : decide (x ≤ last) = true := by simpa using h4
              go_wp2_with fail
              go_quiet (fail)
              rename_i nq
              have HF2 : Hid (Fresh w (wr.drewN nq)) := Lib.hid (HF.out.drewN nq)
              go_wp2_with fail
              go_ret
              exact ⟨ret_b (by rw [← HR.out, risesF_low h4]), HF2.out⟩
            · have d4 : decide (x ≤ last) = false := by simpa using h4
              go_wp2_with fail
              go_quiet (fail)
              rename_i nq
              have HF2 : Hid (Fresh w (wr.drewN nq)) := Lib.hid (HF.out.drewN nq)
              go_wp2_with fail
              go_roundw
              case rel => exact ⟨i + 1, x, by omega, by go_num, by rw [← HR.out, risesF_on (by omega) (by omega)], by omega, fun h => by omega, fun _ => HX.out, HF2.out⟩
              case measure => simp [intOf]; omega
          · have hip : ¬ (0 : Int) < (i : Int) := by omega
            have hid : decide ((0 : Int) < (i : Int)) = false := by simp; omega
            have hidn : decide (0 < i) = false := by simp; omega
            have hl1 : last = 0 := HZ.out (by omega)
            have HL1 := Lib.hid hl1
            clear hl1
            go_wp2_with fail
            go_quiet (fail)
            rename_i nq
            have HF2 : Hid (Fresh w (wr.drewN nq)) := Lib.hid (HF.out.drewN nq)
            go_wp2_with fail
            go_roundw
            case rel => exact ⟨i + 1, x, by omega, by go_num, by rw [← HR.out, risesF_on (by have := HL1.out; omega) (by omega)], by omega, fun h => by omega, fun _ => HX.out, HF2.out⟩
            case measure => simp [intOf]; omega
    · have hlti : ¬ (i : Int) < (zs.length : Int) := by omega
      have HR := Lib.hid hr
      clear hr hz hp
      go_wp2_with fail
      go_ret
      exact ⟨ret_b (by rw [← HR.out, List.drop_eq_nil_of_le (by omega)]; rfl), HF.out⟩
theorem mem_take_no {zs : List Int} {i : Nat} {n : Int} (h : i < zs.length) (hn : n ∉ zs.take i) (hx : zs[i] ≠ n) : n ∉ zs.take (i + 1) := by
  rw [List.take_succ_eq_append_getElem h]
  intro hm
  rcases List.mem_append.1 hm with hm | hm
  · exact hn hm
  · rw [List.mem_singleton] at hm
    exact hx hm.symm
theorem refHas_any (w : World) (A : Option Addr) (cap : Nat) (zs : List Int) (n : Int) (hA : Rd w w.heap.size A (ivs zs)) (hl : zs.length ≤ 100000) :
    Calls Try.prog 122 #[.slice A zs.length cap, .int .i64 n] w fun e w' => e = .returned (.bool (decide (n ∈ zs))) ∧ w' = w := by
  have HA := Lib.hid hA
  clear hA
  go_enter Try.func122, Try.ntmps122
  go_wp2_with fail
  go_loop [5] (fun v5 => ∃ (i : Nat), i ≤ zs.length ∧ v5 = .int .i64 (i : Int) ∧ n ∉ zs.take i) (fun v5 => zs.length - (intOf v5).toNat)
  case atStart => exact ⟨0, by omega, rfl, by simp⟩
  case round =>
    obtain ⟨i, hi, rfl, hno⟩ := hrel
    have hi0 : (0 : Int) ≤ (i : Int) := by omega
    have HNO := Lib.hid hno
    clear hno
    by_cases hlt : i < zs.length
    · have hlti : (i : Int) < (zs.length : Int) := by omega
      obtain ⟨b, o, rfl, _, hc⟩ := HA.out.at_ (k := i) (by simpa using hlt)
      rw [List.getElem_map] at hc
      have HM := Lib.hid (List.getElem_mem hlt)
      have HST := Lib.hid (mem_take_no hlt HNO.out)
      generalize zs[i] = x at hc HM HST
      by_cases hx : x = n
      · have HE := Lib.hid hx
        subst hx
        go_wp2_with fail
        go_ret
        exact ⟨ret_b (decide_eq_true HM.out).symm, rfl⟩
      · go_wp2_with fail
        go_round
        case rel => exact ⟨i + 1, by omega, by go_num, HST.out hx⟩
        case measure => simp [intOf]; omega
    · have hlti : ¬ (i : Int) < (zs.length : Int) := by omega
      go_wp2_with fail
      go_ret
      exact ⟨ret_b (decide_eq_false (by have := HNO.out; rwa [List.take_of_length_le (by omega)] at this)).symm, rfl⟩
def IdxP (k : Int) (b : Bool) : Prop := decide (0 ≤ k) = b
theorem index_any (w : World) (A : Option Addr) (cap : Nat) (zs : List Int) (n : Int) (hA : Rd w w.heap.size A (ivs zs)) (hl : zs.length ≤ 100000) :
    Calls Try.prog 116 #[.slice A zs.length cap, .int .i64 n] w fun e w' => (∃ k : Int, e = .returned (.int .i64 k) ∧ IdxP k (decide (n ∈ zs))) ∧ w' = w := by
  have HA := Lib.hid hA
  clear hA
  go_enter Try.func116, Try.ntmps116
  go_wp2_with fail
  go_loop [8] (fun v8 => ∃ (i : Nat), i ≤ zs.length ∧ v8 = .int .i64 (i : Int) ∧ n ∉ zs.take i) (fun v8 => zs.length - (intOf v8).toNat)
  case atStart => exact ⟨0, by omega, rfl, by simp⟩
  case round =>
    obtain ⟨i, hi, rfl, hno⟩ := hrel
    have hi0 : (0 : Int) ≤ (i : Int) := by omega
    have HNO := Lib.hid hno
    clear hno
    by_cases hlt : i < zs.length
    · have hlti : (i : Int) < (zs.length : Int) := by omega
      obtain ⟨b, o, rfl, _, hc⟩ := HA.out.at_ (k := i) (by simpa using hlt)
      rw [List.getElem_map] at hc
      have HM := Lib.hid (List.getElem_mem hlt)
      have HST := Lib.hid (mem_take_no hlt HNO.out)
      generalize zs[i] = x at hc HM HST
      by_cases hx : n = x
      · subst hx
        go_wp2_with fail
        go_ret
        exact ⟨⟨_, rfl, by unfold IdxP; rw [decide_eq_true HM.out, decide_eq_true hi0]⟩, rfl⟩
      · go_wp2_with fail
        go_round
        case rel => exact ⟨i + 1, by omega, by go_num, HST.out (fun e => hx e.symm)⟩
        case measure => simp [intOf]; omega
    · have hlti : ¬ (i : Int) < (zs.length : Int) := by omega
      go_wp2_with fail
      go_ret
      exact ⟨⟨_, rfl, by unfold IdxP; rw [decide_eq_false (show ¬ n ∈ zs by have := HNO.out; rwa [List.take_of_length_le (by omega)] at this)]; decide⟩, rfl⟩
theorem contains_any (w : World) (A : Option Addr) (cap : Nat) (zs : List Int) (n : Int) (hA : Rd w w.heap.size A (ivs zs)) (hl : zs.length ≤ 100000) :
    Calls Try.prog 104 #[.slice A zs.length cap, .int .i64 n] w fun e w' => e = .returned (.bool (decide (n ∈ zs))) ∧ w' = w := by
  have HI := Lib.hid (index_any w A cap zs n hA hl)
  clear hA
  go_enter Try.func104, Try.ntmps104
  go_wp2_with fail
  refine HI.out.mono ?_
  rintro e w' ⟨⟨k, rfl, hk⟩, rfl⟩
  have HK := Lib.hid (show decide (0 ≤ k) = _ from hk)
  clear hk
  go_wp2_with fail
  go_ret
  exact ⟨ret_b HK.out, rfl⟩
theorem both_any (w : World) (P : Nat) (A : Option Addr) (cap : Nat) (zs : List Int) (n : Int) (hc : w.cell? ⟨P, 3, none⟩ = some (.slice A zs.length cap)) (hA : Rd w w.heap.size A (ivs zs)) (hl : zs.length ≤ 100000) :
    Calls Try.prog 103 #[.int .i64 n, .pointer (some ⟨P, 0, none⟩)] w fun e w' => e = .returned (.bool (decide (n ∈ zs))) ∧ w' = w := by
  have HC := Lib.hid (contains_any w A cap zs n hA hl)
  clear hA
  go_enter Try.func103, Try.ntmps103
  go_wp2_with fail
  refine HC.out.mono ?_
  rintro e w' ⟨rfl, rfl⟩
  go_wp2_with fail
  go_ret
  exact ⟨rfl, rfl⟩
theorem any_take_no {vs zs : List Int} {i : Nat} (h : i < vs.length) (hn : ∀ v ∈ vs.take i, v ∉ zs) (hx : vs[i] ∉ zs) : ∀ v ∈ vs.take (i + 1), v ∉ zs := by
  rw [List.take_succ_eq_append_getElem h]
  intro v hm
  rcases List.mem_append.1 hm with hm | hm
  · exact hn v hm
  · rw [List.mem_singleton] at hm
    rw [hm]
    exact hx
def anyIn (vs zs : List Int) : Bool := decide (∃ v ∈ vs, v ∈ zs)
theorem indexFuncInt_any (w : World) (P : Nat) (A B : Option Addr) (cap cb : Nat) (zs vs : List Int) (hc : w.cell? ⟨P, 3, none⟩ = some (.slice A zs.length cap)) (hA : Rd w w.heap.size A (ivs zs)) (hB : Rd w w.heap.size B (ivs vs)) (hl : zs.length ≤ 100000) (hvl : vs.length ≤ 100000) :
    Calls Try.prog 117 #[.slice B vs.length cb, .func (.func 103) #[] #[.pointer (some ⟨P, 0, none⟩)]] w fun e w' => (∃ k : Int, e = .returned (.int .i64 k) ∧ IdxP k (anyIn vs zs)) ∧ w' = w := by
  have HB := Lib.hid hB
  have HBO := Lib.hid (fun n => both_any w P A cap zs n hc hA hl)
  clear hA hB hc
  go_enter Try.func117, Try.ntmps117
  go_wp2_with fail
  go_loop [8] (fun v8 => ∃ (i : Nat), i ≤ vs.length ∧ v8 = .int .i64 (i : Int) ∧ ∀ v ∈ vs.take i, v ∉ zs) (fun v8 => vs.length - (intOf v8).toNat)
  case atStart => exact ⟨0, by omega, rfl, fun v hv => by simp at hv⟩
  case round =>
    obtain ⟨i, hi, rfl, hno⟩ := hrel
    have hi0 : (0 : Int) ≤ (i : Int) := by omega
    have HNO := Lib.hid hno
    clear hno
    by_cases hlt : i < vs.length
    · have hlti : (i : Int) < (vs.length : Int) := by omega
      obtain ⟨b, o, rfl, _, hc⟩ := HB.out.at_ (k := i) (by simpa using hlt)
      rw [List.getElem_map] at hc
      have HM := Lib.hid (List.getElem_mem hlt)
      have HST := Lib.hid (any_take_no (zs := zs) hlt HNO.out)
      generalize vs[i] = x at hc HM HST
      have HASK := Lib.hid (HBO.out x)
      by_cases hx : x ∈ zs
      · have HX := Lib.hid hx
        rw [decide_eq_true hx] at HASK
        clear hx
        go_wp2_with fail
        refine HASK.out.mono ?_
        rintro e w' ⟨rfl, rfl⟩
        go_wp2_with fail
        go_ret
        exact ⟨⟨_, rfl, by unfold IdxP; rw [decide_eq_true hi0, anyIn, decide_eq_true ⟨_, HM.out, HX.out⟩]⟩, rfl⟩
      · have HX := Lib.hid hx
        rw [decide_eq_false hx] at HASK
        clear hx
        go_wp2_with fail
        refine HASK.out.mono ?_
        rintro e w' ⟨rfl, hw'⟩
        rw [hw']
        clear hw' w'
        go_wp2_with fail
        go_round
        case rel => exact ⟨i + 1, by omega, by go_num, HST.out HX.out⟩
        case measure => simp [intOf]; omega
    · have hlti : ¬ (i : Int) < (vs.length : Int) := by omega
      go_wp2_with fail
      go_ret
      exact ⟨⟨_, rfl, by
        have hn : ¬ ∃ v ∈ vs, v ∈ zs := by
          rintro ⟨v, h1, h2⟩
          have := HNO.out
          rw [List.take_of_length_le (by omega)] at this
          exact this v h1 h2
        unfold IdxP anyIn
        rw [decide_eq_false hn]
        decide⟩, rfl⟩
theorem containsFuncInt_any (w : World) (P : Nat) (A B : Option Addr) (cap cb : Nat) (zs vs : List Int) (hc : w.cell? ⟨P, 3, none⟩ = some (.slice A zs.length cap)) (hA : Rd w w.heap.size A (ivs zs)) (hB : Rd w w.heap.size B (ivs vs)) (hl : zs.length ≤ 100000) (hvl : vs.length ≤ 100000) :
    Calls Try.prog 106 #[.slice B vs.length cb, .func (.func 103) #[] #[.pointer (some ⟨P, 0, none⟩)]] w fun e w' => e = .returned (.bool (anyIn vs zs)) ∧ w' = w := by
  have HI := Lib.hid (indexFuncInt_any w P A B cap cb zs vs hc hA hB hl hvl)
  clear hA hB hc
  go_enter Try.func106, Try.ntmps106
  go_wp2_with fail
  refine HI.out.mono ?_
  rintro e w' ⟨⟨k, rfl, hk⟩, rfl⟩
  have HK := Lib.hid (show decide (0 ≤ k) = _ from hk)
  clear hk
  go_wp2_with fail
  go_ret
  exact ⟨ret_b HK.out, rfl⟩
end Go.Proofs.Ytlceembcehokoaa
namespace Go.Proofs.Ytlceembcehokoaa
open Go.RowKit
set_option linter.unusedVariables false
set_option maxRecDepth 100000

theorem within_yes (n lo hi : Int) (h : lo ≤ n ∧ n ≤ hi) (w : World) : Calls Try.prog 73 #[.int .i64 n, .int .i64 lo, .int .i64 hi] w fun e w' => e = .returned (.bool true) ∧ w' = w := by
  have := within_any n lo hi w
  rwa [decide_eq_true h.1, decide_eq_true h.2] at this
theorem within_no (n lo hi : Int) (h : ¬ (lo ≤ n ∧ n ≤ hi)) (w : World) : Calls Try.prog 73 #[.int .i64 n, .int .i64 lo, .int .i64 hi] w fun e w' => e = .returned (.bool false) ∧ w' = w := by
  have := within_any n lo hi w
  rwa [show (decide (lo ≤ n) && decide (n ≤ hi)) = false by
    rw [← Bool.not_eq_true, Bool.and_eq_true, decide_eq_true_eq, decide_eq_true_eq]
    exact h] at this
theorem keepWithin_yes (n m : Int) (h : 0 ≤ n ∧ n ≤ m) (w : World) : Calls Try.prog 107 #[.int .i64 n, .int .i64 m] w fun e w' => e = .returned (.bool true) ∧ w' = w := by
  have := keepWithin_any n m w
  rwa [decide_eq_true h.1, decide_eq_true h.2] at this
theorem keepWithin_no (n m : Int) (h : ¬ (0 ≤ n ∧ n ≤ m)) (w : World) : Calls Try.prog 107 #[.int .i64 n, .int .i64 m] w fun e w' => e = .returned (.bool false) ∧ w' = w := by
  have := keepWithin_any n m w
  rwa [show (decide (0 ≤ n) && decide (n ≤ m)) = false by
    rw [← Bool.not_eq_true, Bool.and_eq_true, decide_eq_true_eq, decide_eq_true_eq]
    exact h] at this
/-! ### Entries -/
def rightE (i t k : Int) (n : Nat) : Bool := decide ((1 ≤ i ∧ i ≤ 1099511627776) ∧ (0 ≤ t ∧ t ≤ 1099511627776) ∧ (0 ≤ k ∧ k ≤ 7) ∧ n ≤ 4096)
theorem rightE_yes {i t k : Int} {n : Nat} (h : (1 ≤ i ∧ i ≤ 1099511627776) ∧ (0 ≤ t ∧ t ≤ 1099511627776) ∧ (0 ≤ k ∧ k ≤ 7) ∧ n ≤ 4096) : rightE i t k n = true := decide_eq_true h
theorem rightE_no {i t k : Int} {n : Nat} (h : ¬ ((1 ≤ i ∧ i ≤ 1099511627776) ∧ (0 ≤ t ∧ t ≤ 1099511627776) ∧ (0 ≤ k ∧ k ≤ 7) ∧ n ≤ 4096)) : rightE i t k n = false := decide_eq_false h

set_option maxHeartbeats 4000000 in
theorem refRightE_any (w : World) (i t k : Int) (AD : Option Addr) (n cd : Nat) : Calls Try.prog 83 #[.agg #[.int .i64 i, .int .i64 t, .int .i64 k, .slice AD n cd]] w fun e w' => e = .returned (.bool (rightE i t k n)) ∧ Fresh w w' := by
  obtain ⟨W, hW⟩ : ∃ W, w.alloc (.cells #[.int .i64 i, .int .i64 t, .int .i64 k, .slice AD n cd] 70) = W := ⟨_, rfl⟩
  have hFW : Fresh w W := by rw [← hW]; exact (Frm.refl _ w).alloc _
  have hBX : Blk W w.heap.size 70 #[.int .i64 i, .int .i64 t, .int .i64 k, .slice AD n cd] := by rw [← hW]; exact Blk.new w _ _
  have HF := Lib.hid hFW
  have BX := Lib.hid hBX
  have y0 : W.cell? ⟨w.heap.size, 0, none⟩ = some (.int .i64 i) := hBX.cell 0
  have y1 : W.cell? ⟨w.heap.size, 1, none⟩ = some (.int .i64 t) := hBX.cell 1
  have y2 : W.cell? ⟨w.heap.size, 2, none⟩ = some (.int .i64 k) := hBX.cell 2
  have y3 : W.cell? ⟨w.heap.size, 3, none⟩ = some (.slice AD n cd) := hBX.cell 3
  clear hFW hBX
  by_cases c0 : 1 ≤ i
  · by_cases c1 : i ≤ 1099511627776
    · by_cases c2 : 0 ≤ t
      · by_cases c3 : t ≤ 1099511627776
        · by_cases c4 : 0 ≤ k
          · by_cases c5 : k ≤ 7
            · by_cases c6 : (n : Int) ≤ 4096
              · have HV := Lib.hid (rightE_yes (i := i) (t := t) (k := k) (n := n) (by omega))
                rw [HV.out]
                go_enter Try.func83, Try.ntmps83
                go_wp2_with fail
                go_ret
                exact ⟨by first | rfl | (simp <;> omega), HF.out⟩
              · have HV := Lib.hid (rightE_no (i := i) (t := t) (k := k) (n := n) (by omega))
                rw [HV.out]
                go_enter Try.func83, Try.ntmps83
                go_wp2_with fail
                go_ret
                exact ⟨by first | rfl | (simp <;> omega), HF.out⟩
            · have HV := Lib.hid (rightE_no (i := i) (t := t) (k := k) (n := n) (by omega))
              rw [HV.out]
              go_enter Try.func83, Try.ntmps83
              go_wp2_with fail
              go_ret
              exact ⟨by first | rfl | (simp <;> omega), HF.out⟩
          · have HV := Lib.hid (rightE_no (i := i) (t := t) (k := k) (n := n) (by omega))
            rw [HV.out]
            go_enter Try.func83, Try.ntmps83
            go_wp2_with fail
            go_ret
            exact ⟨by first | rfl | (simp <;> omega), HF.out⟩
        · have HV := Lib.hid (rightE_no (i := i) (t := t) (k := k) (n := n) (by omega))
          rw [HV.out]
          go_enter Try.func83, Try.ntmps83
          go_wp2_with fail
          go_ret
          exact ⟨by first | rfl | (simp <;> omega), HF.out⟩
      · have HV := Lib.hid (rightE_no (i := i) (t := t) (k := k) (n := n) (by omega))
        rw [HV.out]
        go_enter Try.func83, Try.ntmps83
        go_wp2_with fail
        go_ret
        exact ⟨by first | rfl | (simp <;> omega), HF.out⟩
    · have HV := Lib.hid (rightE_no (i := i) (t := t) (k := k) (n := n) (by omega))
      rw [HV.out]
      go_enter Try.func83, Try.ntmps83
      go_wp2_with fail
      go_ret
      exact ⟨by first | rfl | (simp <;> omega), HF.out⟩
  · have HV := Lib.hid (rightE_no (i := i) (t := t) (k := k) (n := n) (by omega))
    rw [HV.out]
    go_enter Try.func83, Try.ntmps83
    go_wp2_with fail
    go_ret
    exact ⟨by first | rfl | (simp <;> omega), HF.out⟩
set_option maxHeartbeats 4000000 in
theorem oddE_any (w : World) (i t k : Int) (AD : Option Addr) (n cd : Nat) : Calls Try.prog 74 #[.agg #[.int .i64 i, .int .i64 t, .int .i64 k, .slice AD n cd]] w fun e w' => e = .returned (.bool (!rightE i t k n)) ∧ Fresh w w' := by
  obtain ⟨W, hW⟩ : ∃ W, w.alloc (.cells #[.int .i64 i, .int .i64 t, .int .i64 k, .slice AD n cd] 70) = W := ⟨_, rfl⟩
  have hFW : Fresh w W := by rw [← hW]; exact (Frm.refl _ w).alloc _
  have hBX : Blk W w.heap.size 70 #[.int .i64 i, .int .i64 t, .int .i64 k, .slice AD n cd] := by rw [← hW]; exact Blk.new w _ _
  have HF := Lib.hid hFW
  have BX := Lib.hid hBX
  have y0 : W.cell? ⟨w.heap.size, 0, none⟩ = some (.int .i64 i) := hBX.cell 0
  have y1 : W.cell? ⟨w.heap.size, 1, none⟩ = some (.int .i64 t) := hBX.cell 1
  have y2 : W.cell? ⟨w.heap.size, 2, none⟩ = some (.int .i64 k) := hBX.cell 2
  have y3 : W.cell? ⟨w.heap.size, 3, none⟩ = some (.slice AD n cd) := hBX.cell 3
  clear hFW hBX
  by_cases c0 : 1 ≤ i ∧ i ≤ 1099511627776
  · by_cases c1 : 0 ≤ t ∧ t ≤ 1099511627776
    · by_cases c2 : 0 ≤ k ∧ k ≤ 7
      · by_cases c3 : ¬ 4096 < (n : Int)
        · have HV := Lib.hid (rightE_yes (i := i) (t := t) (k := k) (n := n) (by omega))
          rw [HV.out]
          go_enter Try.func74, Try.ntmps74
          go_wp2_with fail
          refine (within_yes i 1 1099511627776 c0 _).mono ?_
          rintro e w' ⟨rfl, hw'⟩
          rw [hw']
          clear hw' w'
          go_wp2_with fail
          refine (within_yes t 0 1099511627776 c1 _).mono ?_
          rintro e w' ⟨rfl, hw'⟩
          rw [hw']
          clear hw' w'
          go_wp2_with fail
          refine (within_yes k 0 7 c2 _).mono ?_
          rintro e w' ⟨rfl, hw'⟩
          rw [hw']
          clear hw' w'
          go_wp2_with fail
          go_ret
          exact ⟨by first | rfl | (simp <;> omega), HF.out⟩
        · have HV := Lib.hid (rightE_no (i := i) (t := t) (k := k) (n := n) (by omega))
          rw [HV.out]
          go_enter Try.func74, Try.ntmps74
          go_wp2_with fail
          refine (within_yes i 1 1099511627776 c0 _).mono ?_
          rintro e w' ⟨rfl, hw'⟩
          rw [hw']
          clear hw' w'
          go_wp2_with fail
          refine (within_yes t 0 1099511627776 c1 _).mono ?_
          rintro e w' ⟨rfl, hw'⟩
          rw [hw']
          clear hw' w'
          go_wp2_with fail
          refine (within_yes k 0 7 c2 _).mono ?_
          rintro e w' ⟨rfl, hw'⟩
          rw [hw']
          clear hw' w'
          go_wp2_with fail
          go_ret
          exact ⟨by first | rfl | (simp <;> omega), HF.out⟩
      · have HV := Lib.hid (rightE_no (i := i) (t := t) (k := k) (n := n) (by omega))
        rw [HV.out]
        go_enter Try.func74, Try.ntmps74
        go_wp2_with fail
        refine (within_yes i 1 1099511627776 c0 _).mono ?_
        rintro e w' ⟨rfl, hw'⟩
        rw [hw']
        clear hw' w'
        go_wp2_with fail
        refine (within_yes t 0 1099511627776 c1 _).mono ?_
        rintro e w' ⟨rfl, hw'⟩
        rw [hw']
        clear hw' w'
        go_wp2_with fail
        refine (within_no k 0 7 c2 _).mono ?_
        rintro e w' ⟨rfl, hw'⟩
        rw [hw']
        clear hw' w'
        go_wp2_with fail
        go_ret
        exact ⟨by first | rfl | (simp <;> omega), HF.out⟩
    · have HV := Lib.hid (rightE_no (i := i) (t := t) (k := k) (n := n) (by omega))
      rw [HV.out]
      go_enter Try.func74, Try.ntmps74
      go_wp2_with fail
      refine (within_yes i 1 1099511627776 c0 _).mono ?_
      rintro e w' ⟨rfl, hw'⟩
      rw [hw']
      clear hw' w'
      go_wp2_with fail
      refine (within_no t 0 1099511627776 c1 _).mono ?_
      rintro e w' ⟨rfl, hw'⟩
      rw [hw']
      clear hw' w'
      go_wp2_with fail
      go_ret
      exact ⟨by first | rfl | (simp <;> omega), HF.out⟩
  · have HV := Lib.hid (rightE_no (i := i) (t := t) (k := k) (n := n) (by omega))
    rw [HV.out]
    go_enter Try.func74, Try.ntmps74
    go_wp2_with fail
    refine (within_no i 1 1099511627776 c0 _).mono ?_
    rintro e w' ⟨rfl, hw'⟩
    rw [hw']
    clear hw' w'
    go_wp2_with fail
    go_ret
    exact ⟨by first | rfl | (simp <;> omega), HF.out⟩
/-! ### Snapshots -/
structure RdS (w : World) (AV AL AD : Option Addr) (vs ls : List Int) (ds : List UInt8) : Prop where
  rv : Rd w w.heap.size AV (ivs vs)
  rl : Rd w w.heap.size AL (ivs ls)
  rd : Rd w w.heap.size AD (ds.map bv)
  vl : vs.length ≤ 1000
  ll : ls.length ≤ 1000
  dl : ds.length ≤ 100000
theorem RdS.fresh {w w' : World} {AV AL AD : Option Addr} {vs ls : List Int} {ds : List UInt8} (h : RdS w AV AL AD vs ls ds) (K : Fresh w w') : RdS w' AV AL AD vs ls ds :=
  ⟨(h.rv.fresh (Nat.le_refl _) K).more K.size, (h.rl.fresh (Nat.le_refl _) K).more K.size, (h.rd.fresh (Nat.le_refl _) K).more K.size, h.vl, h.ll, h.dl⟩
def emptyS (i t : Int) (vs ls : List Int) (ds : List UInt8) : Bool := decide (i = 0 ∧ t = 0 ∧ vs.length = 0 ∧ ls.length = 0 ∧ ds.length = 0)
def groupS (vs ls : List Int) : Bool := ((risesF 0 vs && risesF 0 ls) && decide (0 < vs.length)) && !anyIn vs ls
def numS (i t : Int) (ds : List UInt8) : Bool := decide ((0 ≤ i ∧ i ≤ 1099511627776) ∧ (0 ≤ t ∧ t ≤ 1099511627776) ∧ ds.length ≤ 60000)
def rightS (i t : Int) (vs ls : List Int) (ds : List UInt8) : Bool := numS i t ds && groupS vs ls
theorem rightS_num {i t : Int} {vs ls : List Int} {ds : List UInt8} (h : ¬ ((0 ≤ i ∧ i ≤ 1099511627776) ∧ (0 ≤ t ∧ t ≤ 1099511627776) ∧ ds.length ≤ 60000)) : rightS i t vs ls ds = false := by
  unfold rightS numS
  rw [decide_eq_false h]
  rfl
theorem rightS_grp {i t : Int} {vs ls : List Int} {ds : List UInt8} (h : (0 ≤ i ∧ i ≤ 1099511627776) ∧ (0 ≤ t ∧ t ≤ 1099511627776) ∧ ds.length ≤ 60000) : rightS i t vs ls ds = groupS vs ls := by
  unfold rightS numS
  rw [decide_eq_true h]
  rfl
theorem rightS_off {i t : Int} {vs ls : List Int} {ds : List UInt8} (h : groupS vs ls = false) : rightS i t vs ls ds = false := by
  unfold rightS
  rw [h, Bool.and_false]

set_option maxHeartbeats 4000000 in
theorem empty_any (w : World) (i t : Int) (AV AL AD : Option Addr) (cv cl cd : Nat) (vs ls : List Int) (ds : List UInt8) (h : RdS w AV AL AD vs ls ds) : Calls Try.prog 34 #[.agg #[.int .i64 i, .int .i64 t, .slice AV vs.length cv, .slice AL ls.length cl, .slice AD ds.length cd]] w fun e w' => e = .returned (.bool (emptyS i t vs ls ds)) ∧ Fresh w w' := by
  obtain ⟨W, hW⟩ : ∃ W, w.alloc (.cells #[.int .i64 i, .int .i64 t, .slice AV vs.length cv, .slice AL ls.length cl, .slice AD ds.length cd] 28) = W := ⟨_, rfl⟩
  have hFW : Fresh w W := by rw [← hW]; exact (Frm.refl _ w).alloc _
  have hBX : Blk W w.heap.size 28 #[.int .i64 i, .int .i64 t, .slice AV vs.length cv, .slice AL ls.length cl, .slice AD ds.length cd] := by rw [← hW]; exact Blk.new w _ _
  have HF := Lib.hid hFW
  have BX := Lib.hid hBX
  have y0 : W.cell? ⟨w.heap.size, 0, none⟩ = some (.int .i64 i) := hBX.cell 0
  have y1 : W.cell? ⟨w.heap.size, 1, none⟩ = some (.int .i64 t) := hBX.cell 1
  have y2 : W.cell? ⟨w.heap.size, 2, none⟩ = some (.slice AV vs.length cv) := hBX.cell 2
  have y3 : W.cell? ⟨w.heap.size, 3, none⟩ = some (.slice AL ls.length cl) := hBX.cell 3
  have y4 : W.cell? ⟨w.heap.size, 4, none⟩ = some (.slice AD ds.length cd) := hBX.cell 4
  clear hFW hBX
  have q1 := h.vl
  have q2 := h.ll
  have q3 := h.dl
  have hw1 : IntKind.i64.wrap ((vs.length : Int) + (ls.length : Int)) = (vs.length : Int) + (ls.length : Int) := IntWalk.i64_in _ (by omega)
  have hw2 : IntKind.i64.wrap ((vs.length : Int) + (ls.length : Int) + (ds.length : Int)) = (vs.length : Int) + (ls.length : Int) + (ds.length : Int) := IntWalk.i64_in _ (by omega)
  clear h
  by_cases c0 : i = 0
  · by_cases c1 : t = 0
    · by_cases c2 : (vs.length : Int) + (ls.length : Int) + (ds.length : Int) = 0
      · have HV : Hid (emptyS i t vs ls ds = true) := Lib.hid (by unfold emptyS; exact decide_eq_true (by omega))
        rw [HV.out]
        go_enter Try.func34, Try.ntmps34
        go_wp2_with fail
        go_ret
        exact ⟨by first | rfl | (simp <;> omega), by first | exact HF.out | exact (Frm.refl _ w).alloc _⟩
      · have HV : Hid (emptyS i t vs ls ds = false) := Lib.hid (by unfold emptyS; exact decide_eq_false (by omega))
        rw [HV.out]
        go_enter Try.func34, Try.ntmps34
        go_wp2_with fail
        go_ret
        exact ⟨by first | rfl | (simp <;> omega), by first | exact HF.out | exact (Frm.refl _ w).alloc _⟩
    · have HV : Hid (emptyS i t vs ls ds = false) := Lib.hid (by unfold emptyS; exact decide_eq_false (by omega))
      rw [HV.out]
      go_enter Try.func34, Try.ntmps34
      go_wp2_with fail
      go_ret
      exact ⟨by first | rfl | (simp <;> omega), by first | exact HF.out | exact (Frm.refl _ w).alloc _⟩
  · have HV : Hid (emptyS i t vs ls ds = false) := Lib.hid (by unfold emptyS; exact decide_eq_false (by omega))
    rw [HV.out]
    go_enter Try.func34, Try.ntmps34
    go_wp2_with fail
    go_ret
    exact ⟨by first | rfl | (simp <;> omega), by first | exact HF.out | exact (Frm.refl _ w).alloc _⟩
set_option maxHeartbeats 8000000 in
theorem keepRight_any (w : World) (i t : Int) (AV AL AD : Option Addr) (cv cl cd : Nat) (vs ls : List Int) (ds : List UInt8) (h : RdS w AV AL AD vs ls ds) : Calls Try.prog 76 #[.agg #[.int .i64 i, .int .i64 t, .slice AV vs.length cv, .slice AL ls.length cl, .slice AD ds.length cd]] w fun e w' => e = .returned (.bool (rightS i t vs ls ds)) ∧ Fresh w w' := by
  have hmf : ∀ (fn : Fn) (first cap : Array Value) (w : World), (Instr.makeFunc fn first cap).run Try.prog w = .ok (.func fn first cap) w := fun _ _ _ _ => rfl
  obtain ⟨W, hW⟩ : ∃ W, w.alloc (.cells #[.int .i64 i, .int .i64 t, .slice AV vs.length cv, .slice AL ls.length cl, .slice AD ds.length cd] 28) = W := ⟨_, rfl⟩
  have hFW : Fresh w W := by rw [← hW]; exact (Frm.refl _ w).alloc _
  have hBX : Blk W w.heap.size 28 #[.int .i64 i, .int .i64 t, .slice AV vs.length cv, .slice AL ls.length cl, .slice AD ds.length cd] := by rw [← hW]; exact Blk.new w _ _
  have HF := Lib.hid hFW
  have BX := Lib.hid hBX
  have y0 : W.cell? ⟨w.heap.size, 0, none⟩ = some (.int .i64 i) := hBX.cell 0
  have y1 : W.cell? ⟨w.heap.size, 1, none⟩ = some (.int .i64 t) := hBX.cell 1
  have y2 : W.cell? ⟨w.heap.size, 2, none⟩ = some (.slice AV vs.length cv) := hBX.cell 2
  have y3 : W.cell? ⟨w.heap.size, 3, none⟩ = some (.slice AL ls.length cl) := hBX.cell 3
  have y4 : W.cell? ⟨w.heap.size, 4, none⟩ = some (.slice AD ds.length cd) := hBX.cell 4
  clear hFW hBX
  have hs := h.fresh HF.out
  have q1 := h.vl
  have q2 := h.ll
  have q3 := h.dl
  have HR1 := Lib.hid (keepRises_any W AV cv vs hs.rv (by omega))
  have HR2 := Lib.hid (keepRises_any W AL cl ls hs.rl (by omega))
  have HC := Lib.hid (containsFuncInt_any W w.heap.size AL AV cl cv ls vs y3 hs.rl hs.rv (by omega) (by omega))
  have HG : Hid (groupS vs ls = (((risesF 0 vs && risesF 0 ls) && decide (0 < vs.length)) && !anyIn vs ls)) := Lib.hid rfl
  clear h hs
  go_enter Try.func76, Try.ntmps76
  go_upto_region 2 with fail
  go_cut [4] from 6 (fun s4 wx => s4 = .bool (groupS vs ls) ∧ wx = W)
  case first =>
    generalize risesF 0 vs = r1 at HR1 HG
    generalize risesF 0 ls = r2 at HR2 HG
    generalize anyIn vs ls = r3 at HC HG
    cases r1 with
    | false =>
      go_wp2_with fail
      refine (HR1.out).mono ?_
      rintro e w' ⟨rfl, hw'⟩
      rw [hw']
      clear hw' w'
      go_wp2_with fail
      go_meet
      exact ⟨by rw [HG.out]; first | rfl | simp, rfl⟩
    | true =>
      cases r2 with
      | false =>
        go_wp2_with fail
        refine (HR1.out).mono ?_
        rintro e w' ⟨rfl, hw'⟩
        rw [hw']
        clear hw' w'
        go_wp2_with fail
        refine (HR2.out).mono ?_
        rintro e w' ⟨rfl, hw'⟩
        rw [hw']
        clear hw' w'
        go_wp2_with fail
        go_meet
        exact ⟨by rw [HG.out]; first | rfl | simp, rfl⟩
      | true =>
        by_cases h3 : (0 : Int) < (vs.length : Int)
        · have HD : Hid (decide (0 < vs.length) = true) := Lib.hid (decide_eq_true (by omega))
          cases r3 with
          | true =>
            go_wp2_with fail
            refine (HR1.out).mono ?_
            rintro e w' ⟨rfl, hw'⟩
            rw [hw']
            clear hw' w'
            go_wp2_with fail
            refine (HR2.out).mono ?_
            rintro e w' ⟨rfl, hw'⟩
            rw [hw']
            clear hw' w'
            go_wp2_with fail
            refine (HC.out).mono ?_
            rintro e w' ⟨rfl, hw'⟩
            rw [hw']
            clear hw' w'
            go_wp2_with fail
            go_meet
            exact ⟨by rw [HG.out, HD.out]; first | rfl | simp, rfl⟩
          | false =>
            go_wp2_with fail
            refine (HR1.out).mono ?_
            rintro e w' ⟨rfl, hw'⟩
            rw [hw']
            clear hw' w'
            go_wp2_with fail
            refine (HR2.out).mono ?_
            rintro e w' ⟨rfl, hw'⟩
            rw [hw']
            clear hw' w'
            go_wp2_with fail
            refine (HC.out).mono ?_
            rintro e w' ⟨rfl, hw'⟩
            rw [hw']
            clear hw' w'
            go_wp2_with fail
            go_meet
            exact ⟨by rw [HG.out, HD.out]; first | rfl | simp, rfl⟩
        · have HD : Hid (decide (0 < vs.length) = false) := Lib.hid (decide_eq_false (by omega))
          go_wp2_with fail
          refine (HR1.out).mono ?_
          rintro e w' ⟨rfl, hw'⟩
          rw [hw']
          clear hw' w'
          go_wp2_with fail
          refine (HR2.out).mono ?_
          rintro e w' ⟨rfl, hw'⟩
          rw [hw']
          clear hw' w'
          go_wp2_with fail
          go_meet
          exact ⟨by rw [HG.out, HD.out]; first | rfl | simp, rfl⟩
  case rest =>
    obtain ⟨hc1, hc2⟩ := hcut
    subst hc1 hc2
    clear HR1 HR2 HC HG
    by_cases c0 : 0 ≤ i ∧ i ≤ 1099511627776
    · by_cases c1 : 0 ≤ t ∧ t ≤ 1099511627776
      · cases hg : groupS vs ls with
        | false =>
          have HV := Lib.hid (rightS_off (i := i) (t := t) (ds := ds) hg)
          clear hg
          go_wp2_with fail
          refine (keepWithin_yes i 1099511627776 c0 _).mono ?_
          rintro e w' ⟨rfl, hw'⟩
          rw [hw']
          clear hw' w'
          go_wp2_with fail
          refine (keepWithin_yes t 1099511627776 c1 _).mono ?_
          rintro e w' ⟨rfl, hw'⟩
          rw [hw']
          clear hw' w'
          go_wp2_with fail
          go_ret
          exact ⟨by first | exact ret_b HV.out.symm | (rw [HV.out]; simp <;> omega), HF.out⟩
        | true =>
          by_cases hd : (ds.length : Int) ≤ 60000
          · have HV := Lib.hid ((rightS_grp (vs := vs) (ls := ls) ⟨c0, c1, (by omega : ds.length ≤ 60000)⟩).trans hg)
            clear hg
            go_wp2_with fail
            refine (keepWithin_yes i 1099511627776 c0 _).mono ?_
            rintro e w' ⟨rfl, hw'⟩
            rw [hw']
            clear hw' w'
            go_wp2_with fail
            refine (keepWithin_yes t 1099511627776 c1 _).mono ?_
            rintro e w' ⟨rfl, hw'⟩
            rw [hw']
            clear hw' w'
            go_wp2_with fail
            go_ret
            exact ⟨by first | exact ret_b HV.out.symm | (rw [HV.out]; simp <;> omega), HF.out⟩
          · have HV := Lib.hid (rightS_num (i := i) (t := t) (vs := vs) (ls := ls) (ds := ds) (by omega))
            clear hg
            go_wp2_with fail
            refine (keepWithin_yes i 1099511627776 c0 _).mono ?_
            rintro e w' ⟨rfl, hw'⟩
            rw [hw']
            clear hw' w'
            go_wp2_with fail
            refine (keepWithin_yes t 1099511627776 c1 _).mono ?_
            rintro e w' ⟨rfl, hw'⟩
            rw [hw']
            clear hw' w'
            go_wp2_with fail
            go_ret
            exact ⟨by first | exact ret_b HV.out.symm | (rw [HV.out]; simp <;> omega), HF.out⟩
      · have HV := Lib.hid (rightS_num (i := i) (t := t) (vs := vs) (ls := ls) (ds := ds) (by omega))
        go_wp2_with fail
        refine (keepWithin_yes i 1099511627776 c0 _).mono ?_
        rintro e w' ⟨rfl, hw'⟩
        rw [hw']
        clear hw' w'
        go_wp2_with fail
        refine (keepWithin_no t 1099511627776 c1 _).mono ?_
        rintro e w' ⟨rfl, hw'⟩
        rw [hw']
        clear hw' w'
        go_wp2_with fail
        go_ret
        exact ⟨by first | exact ret_b HV.out.symm | (rw [HV.out]; simp <;> omega), HF.out⟩
    · have HV := Lib.hid (rightS_num (i := i) (t := t) (vs := vs) (ls := ls) (ds := ds) (by omega))
      go_wp2_with fail
      refine (keepWithin_no i 1099511627776 c0 _).mono ?_
      rintro e w' ⟨rfl, hw'⟩
      rw [hw']
      clear hw' w'
      go_wp2_with fail
      go_ret
      exact ⟨by first | exact ret_b HV.out.symm | (rw [HV.out]; simp <;> omega), HF.out⟩
theorem sameNil_any (w : World) (A : Option Addr) (cap : Nat) (zs : List Int) : Calls Try.prog 123 #[.slice A zs.length cap, .slice none 0 0] w fun e w' => e = .returned (.bool (decide (zs.length = 0))) ∧ w' = w := by
  by_cases h0 : zs.length = 0
  · rw [decide_eq_true h0, h0]
    clear h0
    go_enter Try.func123, Try.ntmps123
    go_wp2_with fail
    go_loop [5] (fun v5 => v5 = .int .i64 0) (fun v5 => 0)
    case atStart => rfl
    case round =>
      subst hrel
      go_wp2_with fail
      go_ret
      exact ⟨rfl, rfl⟩
  · rw [decide_eq_false h0]
    have h1 : ¬ (zs.length : Int) = 0 := by omega
    go_enter Try.func123, Try.ntmps123
    go_wp2_with fail
    go_ret
    exact ⟨rfl, rfl⟩
def nilB (vs ls : List Int) : Bool := decide (vs.length = 0) && decide (ls.length = 0)
set_option maxHeartbeats 2000000 in
theorem sameGroupNil_any (w : World) (AV AL : Option Addr) (cv cl : Nat) (vs ls : List Int) : Calls Try.prog 111 #[.agg #[.slice AV vs.length cv, .slice AL ls.length cl], .agg #[.slice none 0 0, .slice none 0 0]] w fun e w' => e = .returned (.bool (nilB vs ls)) ∧ Fresh w w' := by
  unfold nilB
  have HF := Lib.hid (((Frm.refl (fun _ => False) w).alloc (.cells #[.slice AV vs.length cv, .slice AL ls.length cl] 25)).alloc (.cells #[.slice none 0 0, .slice none 0 0] 25))
  have H1 := Lib.hid (fun w => sameNil_any w AV cv vs)
  have H2 := Lib.hid (fun w => sameNil_any w AL cl ls)
  generalize decide (vs.length = 0) = r1 at H1 ⊢
  generalize decide (ls.length = 0) = r2 at H2 ⊢
  cases r1 with
  | false =>
    go_enter Try.func111, Try.ntmps111
    go_wp2_with fail
    refine (H1.out _).mono ?_
    rintro e w' ⟨rfl, hw'⟩
    rw [hw']
    clear hw' w'
    go_wp2_with fail
    refine (H2.out _).mono ?_
    rintro e w' ⟨rfl, hw'⟩
    rw [hw']
    clear hw' w'
    go_wp2_with fail
    go_ret
    exact ⟨by first | rfl | (simp <;> omega), HF.out⟩
  | true =>
    go_enter Try.func111, Try.ntmps111
    go_wp2_with fail
    refine (H1.out _).mono ?_
    rintro e w' ⟨rfl, hw'⟩
    rw [hw']
    clear hw' w'
    go_wp2_with fail
    refine (H2.out _).mono ?_
    rintro e w' ⟨rfl, hw'⟩
    rw [hw']
    clear hw' w'
    go_wp2_with fail
    go_ret
    exact ⟨by first | rfl | (simp <;> omega), HF.out⟩

end Go.Proofs.Ytlceembcehokoaa
namespace Go.Proofs.Ytlceembcehokoaa
open Go.RowKit
set_option linter.unusedVariables false
set_option maxRecDepth 100000

set_option maxHeartbeats 8000000 in
theorem refGroup_any (w : World) (AV AL : Option Addr) (cv cl : Nat) (vs ls : List Int) (hv : Rd w w.heap.size AV (ivs vs)) (hl : Rd w w.heap.size AL (ivs ls)) (q1 : vs.length ≤ 1000) (q2 : ls.length ≤ 1000) :
    Calls Try.prog 110 #[.agg #[.slice AV vs.length cv, .slice AL ls.length cl]] w fun e w' => e = .returned (.bool (groupS vs ls)) ∧ Fresh w w' := by
  obtain ⟨W, hW⟩ : ∃ W, w.alloc (.cells #[.slice AV vs.length cv, .slice AL ls.length cl] 25) = W := ⟨_, rfl⟩
  have hFW : Fresh w W := by rw [← hW]; exact (Frm.refl _ w).alloc _
  have hBX : Blk W w.heap.size 25 #[.slice AV vs.length cv, .slice AL ls.length cl] := by rw [← hW]; exact Blk.new w _ _
  have HFW := Lib.hid hFW
  have BX := Lib.hid hBX
  have y0_W : W.cell? ⟨w.heap.size, 0, none⟩ = some (.slice AV vs.length cv) := hBX.cell 0
  have y1_W : W.cell? ⟨w.heap.size, 1, none⟩ = some (.slice AL ls.length cl) := hBX.cell 1
  have HV := Lib.hid ((hv.fresh (Nat.le_refl _) hFW).more hFW.size)
  have HL := Lib.hid ((hl.fresh (Nat.le_refl _) hFW).more hFW.size)
  have HR1 := Lib.hid (refRises_any W AV cv vs HV.out (by omega))
  have HR2 : Hid (∀ w', Fresh W w' → Calls Try.prog 121 #[.slice AL ls.length cl] w' fun e w2 => e = .returned (.bool (risesF 0 ls)) ∧ Fresh w' w2) := Lib.hid (fun w' K => refRises_any w' AL cl ls ((HL.out.fresh (Nat.le_refl _) K).more K.size) (by omega))
  have HG : Hid (groupS vs ls = (((risesF 0 vs && risesF 0 ls) && decide (0 < vs.length)) && !anyIn vs ls)) := Lib.hid rfl
  have HAN : Hid (anyIn vs ls = decide (∃ v ∈ vs, v ∈ ls)) := Lib.hid rfl
  generalize risesF 0 vs = r1 at HR1 HG
  generalize risesF 0 ls = r2 at HR2 HG
  generalize anyIn vs ls = r3 at HG HAN
  clear hFW hBX hv hl
  go_enter Try.func110, Try.ntmps110
  go_wp2_with fail
  clear hW
  refine HR1.out.mono ?_
  rintro e w1 ⟨rfl, f1⟩
  have b1 := BX.out.frm f1 (fun f => f)
  have y0_w1 : w1.cell? ⟨w.heap.size, 0, none⟩ = some (.slice AV vs.length cv) := b1.cell 0
  have y1_w1 : w1.cell? ⟨w.heap.size, 1, none⟩ = some (.slice AL ls.length cl) := b1.cell 1
  have HF1 := Lib.hid f1
  clear f1 b1
  go_wp2_with fail
  refine (HR2.out w1 HF1.out).mono ?_
  rintro e w2 ⟨rfl, f2⟩
  have b2 := BX.out.frm (HF1.out.trans f2) (fun f => f)
  have y0_w2 : w2.cell? ⟨w.heap.size, 0, none⟩ = some (.slice AV vs.length cv) := b2.cell 0
  have y1_w2 : w2.cell? ⟨w.heap.size, 1, none⟩ = some (.slice AL ls.length cl) := b2.cell 1
  have HW2 := Lib.hid (HF1.out.trans f2)
  have HF2 := Lib.hid (HFW.out.trans HW2.out)
  clear f2 b2
  cases r1 with
  | false =>
    go_wp2_with fail
    go_ret
    exact ⟨by rw [HG.out]; first | rfl | simp, HF2.out⟩
  | true =>
    cases r2 with
    | false =>
      go_wp2_with fail
      go_ret
      exact ⟨by rw [HG.out]; first | rfl | simp, HF2.out⟩
    | true =>
      by_cases h3 : (0 : Int) < (vs.length : Int)
      · have HD : Hid (decide (0 < vs.length) = true) := Lib.hid (decide_eq_true (by omega))
        have h4 : ¬ (vs.length : Int) = 0 := by omega
        have h5 : ¬ vs.length = 0 := by omega
        have h6 : ((vs.length : Int) == 0) = false := by rw [beq_eq_false_iff_ne]; omega
        go_wp2_with fail
        go_loopw [5] (fun v5 wr => ∃ i : Nat, i ≤ vs.length ∧ v5 = .int .i64 (i : Int) ∧ (∀ v ∈ vs.take i, v ∉ ls) ∧ Fresh w2 wr) (fun v5 _ => vs.length - (intOf v5).toNat)
        case atStart => exact ⟨0, by omega, rfl, fun v hv => by simp at hv, Frm.refl _ _⟩
        case round =>
          obtain ⟨i, hi, rfl, hno, hf⟩ := hrel
          have HNO := Lib.hid hno
          have HFR := Lib.hid (HW2.out.trans hf)
          have br := BX.out.frm HFR.out (fun f => f)
          have z0_wr : wr.cell? ⟨w.heap.size, 0, none⟩ = some (.slice AV vs.length cv) := br.cell 0
          have z1_wr : wr.cell? ⟨w.heap.size, 1, none⟩ = some (.slice AL ls.length cl) := br.cell 1
          have HBR := Lib.hid br
          have HFN := Lib.hid hf
          have hi0 : (0 : Int) ≤ (i : Int) := by omega
          clear hno hf br
          by_cases hlt : i < vs.length
          · have hlti : (i : Int) < (vs.length : Int) := by omega
            obtain ⟨g, o, rfl, hgl, hc⟩ := (HV.out.fresh (Nat.le_refl _) HFR.out).at_ (k := i) (by simpa using hlt)
            rw [List.getElem_map] at hc
            have HM := Lib.hid (List.getElem_mem hlt)
            have HST := Lib.hid (any_take_no (zs := ls) hlt HNO.out)
            generalize vs[i] = x at hc HM HST
            have SS : Hid (wr.drew.cell? ⟨w.heap.size, 0, none⟩ = some (.slice (some ⟨g, o, none⟩) vs.length cv) ∧ wr.drew.cell? ⟨w.heap.size, 1, none⟩ = some (.slice AL ls.length cl) ∧ wr.drew.cell? ⟨g, o + i, none⟩ = some (.int .i64 x)) := Lib.hid ⟨z0_wr, z1_wr, hc⟩
            have HH := Lib.hid (refHas_any wr.drew AL cl ls x (((HL.out.fresh (Nat.le_refl _) HFR.out).more HFR.out.size).drew) (by omega))
            by_cases hx : x ∈ ls
            · have HX := Lib.hid hx
              rw [decide_eq_true hx] at HH
              have HR3 : Hid (r3 = true) := Lib.hid (by rw [HAN.out]; exact decide_eq_true ⟨_, HM.out, hx⟩)
              clear hx
              go_wp2_with fail
              go_region_held3 (fun w' => w'.cell? ⟨w.heap.size, 0, none⟩ = some (.slice (some ⟨g, o, none⟩) vs.length cv) ∧ w'.cell? ⟨w.heap.size, 1, none⟩ = some (.slice AL ls.length cl) ∧ w'.cell? ⟨g, o + i, none⟩ = some (.int .i64 x)) (exact SS.out)
                (first | (go_at_call 122; refine HH.out.mono ?_; rintro e w' ⟨rfl, rfl⟩))
              go_wp2_with fail
              go_ret
              exact ⟨by rw [HG.out, HR3.out]; first | rfl | simp, (HFW.out.trans HFR.out).drew⟩
            · have HX := Lib.hid hx
              rw [decide_eq_false hx] at HH
              clear hx
              go_wp2_with fail
              go_region_held3 (fun w' => w'.cell? ⟨w.heap.size, 0, none⟩ = some (.slice (some ⟨g, o, none⟩) vs.length cv) ∧ w'.cell? ⟨w.heap.size, 1, none⟩ = some (.slice AL ls.length cl) ∧ w'.cell? ⟨g, o + i, none⟩ = some (.int .i64 x)) (exact SS.out)
                (first | (go_at_call 122; refine HH.out.mono ?_; rintro e w' ⟨rfl, rfl⟩))
              go_wp2_with fail
              go_roundw
              case rel => first | exact ⟨i + 1, by omega, by go_num, HST.out HX.out, HFN.out.drew⟩ | ((repeat apply Exists.intro); exact ⟨⟨i + 1, by omega, by go_num, HST.out HX.out, HFN.out.drew⟩, rfl⟩)
              case measure => simp [intOf]; omega
          · have hlti : ¬ (i : Int) < (vs.length : Int) := by omega
            have HR3 : Hid (r3 = false) := Lib.hid (by
              rw [HAN.out]
              refine decide_eq_false ?_
              rintro ⟨v, h1, h2⟩
              have := HNO.out
              rw [List.take_of_length_le (by omega)] at this
              exact this v h1 h2)
            go_wp2_with fail
            go_ret
            exact ⟨by rw [HG.out, HR3.out, HD.out]; first | rfl | simp, HFW.out.trans HFR.out⟩
      · have HD : Hid (decide (0 < vs.length) = false) := Lib.hid (decide_eq_false (by omega))
        have h4 : (vs.length : Int) = 0 := by omega
        go_wp2_with fail
        go_ret
        exact ⟨by rw [HG.out, HD.out]; first | rfl | simp, HF2.out⟩
set_option maxHeartbeats 8000000 in
theorem refRightSnap_any (w : World) (i t : Int) (AV AL AD : Option Addr) (cv cl cd : Nat) (vs ls : List Int) (ds : List UInt8) (h : RdS w AV AL AD vs ls ds) :
    Calls Try.prog 84 #[.agg #[.int .i64 i, .int .i64 t, .slice AV vs.length cv, .slice AL ls.length cl, .slice AD ds.length cd]] w fun e w' => e = .returned (.bool (rightS i t vs ls ds)) ∧ Fresh w w' := by
  obtain ⟨W, hW⟩ : ∃ W, w.alloc (.cells #[.int .i64 i, .int .i64 t, .slice AV vs.length cv, .slice AL ls.length cl, .slice AD ds.length cd] 28) = W := ⟨_, rfl⟩
  have hFW : Fresh w W := by rw [← hW]; exact (Frm.refl _ w).alloc _
  have hBX : Blk W w.heap.size 28 #[.int .i64 i, .int .i64 t, .slice AV vs.length cv, .slice AL ls.length cl, .slice AD ds.length cd] := by rw [← hW]; exact Blk.new w _ _
  have HF := Lib.hid hFW
  have BX := Lib.hid hBX
  have y0 : W.cell? ⟨w.heap.size, 0, none⟩ = some (.int .i64 i) := hBX.cell 0
  have y1 : W.cell? ⟨w.heap.size, 1, none⟩ = some (.int .i64 t) := hBX.cell 1
  have y2 : W.cell? ⟨w.heap.size, 2, none⟩ = some (.slice AV vs.length cv) := hBX.cell 2
  have y3 : W.cell? ⟨w.heap.size, 3, none⟩ = some (.slice AL ls.length cl) := hBX.cell 3
  have y4 : W.cell? ⟨w.heap.size, 4, none⟩ = some (.slice AD ds.length cd) := hBX.cell 4
  clear hFW hBX
  have hs := h.fresh HF.out
  have q3 := h.dl
  have HGC := Lib.hid (refGroup_any W AV AL cv cl vs ls hs.rv hs.rl h.vl h.ll)
  have HGR : Hid (groupS vs ls = groupS vs ls) := Lib.hid rfl
  generalize hg : groupS vs ls = g at HGC
  have HGR := Lib.hid hg
  clear h hs hg
  go_enter Try.func84, Try.ntmps84
  go_wp2_with fail
  clear hW
  refine HGC.out.mono ?_
  rintro e w1 ⟨rfl, f1⟩
  have b1 := BX.out.frm f1 (fun f => f)
  have z0 : w1.cell? ⟨w.heap.size, 0, none⟩ = some (.int .i64 i) := b1.cell 0
  have z1 : w1.cell? ⟨w.heap.size, 1, none⟩ = some (.int .i64 t) := b1.cell 1
  have z2 : w1.cell? ⟨w.heap.size, 2, none⟩ = some (.slice AV vs.length cv) := b1.cell 2
  have z3 : w1.cell? ⟨w.heap.size, 3, none⟩ = some (.slice AL ls.length cl) := b1.cell 3
  have z4 : w1.cell? ⟨w.heap.size, 4, none⟩ = some (.slice AD ds.length cd) := b1.cell 4
  have HF1 := Lib.hid (HF.out.trans f1)
  clear f1 b1
  by_cases c0 : 0 ≤ i
  · by_cases c1 : i ≤ 1099511627776
    · by_cases c2 : 0 ≤ t
      · by_cases c3 : t ≤ 1099511627776
        · cases g with
          | false =>
            have HV : Hid (rightS i t vs ls ds = false) := Lib.hid (rightS_off HGR.out)
            go_wp2_with fail
            go_ret
            exact ⟨by first | exact ret_b HV.out.symm | (rw [HV.out]; simp <;> omega), HF1.out⟩
          | true =>
            by_cases hd : (ds.length : Int) ≤ 60000
            · have HV : Hid (rightS i t vs ls ds = true) := Lib.hid ((rightS_grp ⟨⟨c0, c1⟩, ⟨c2, c3⟩, (by omega : ds.length ≤ 60000)⟩).trans HGR.out)
              go_wp2_with fail
              go_ret
              exact ⟨by first | exact ret_b HV.out.symm | (rw [HV.out]; simp <;> omega), HF1.out⟩
            · have HV : Hid (rightS i t vs ls ds = false) := Lib.hid (rightS_num (by omega))
              go_wp2_with fail
              go_ret
              exact ⟨by first | exact ret_b HV.out.symm | (rw [HV.out]; simp <;> omega), HF1.out⟩
        · have HV : Hid (rightS i t vs ls ds = false) := Lib.hid (rightS_num (by omega))
          go_wp2_with fail
          go_ret
          exact ⟨by first | exact ret_b HV.out.symm | (rw [HV.out]; simp <;> omega), HF1.out⟩
      · have HV : Hid (rightS i t vs ls ds = false) := Lib.hid (rightS_num (by omega))
        go_wp2_with fail
        go_ret
        exact ⟨by first | exact ret_b HV.out.symm | (rw [HV.out]; simp <;> omega), HF1.out⟩
    · have HV : Hid (rightS i t vs ls ds = false) := Lib.hid (rightS_num (by omega))
      go_wp2_with fail
      go_ret
      exact ⟨by first | exact ret_b HV.out.symm | (rw [HV.out]; simp <;> omega), HF1.out⟩
  · have HV : Hid (rightS i t vs ls ds = false) := Lib.hid (rightS_num (by omega))
    go_wp2_with fail
    go_ret
    exact ⟨by first | exact ret_b HV.out.symm | (rw [HV.out]; simp <;> omega), HF1.out⟩
set_option maxHeartbeats 8000000 in
theorem sameSnapZero_any (w : World) (i t : Int) (AV AL AD : Option Addr) (cv cl cd : Nat) (vs ls : List Int) (ds : List UInt8) (h : RdS w AV AL AD vs ls ds) :
    Calls Try.prog 85 #[.agg #[.int .i64 i, .int .i64 t, .slice AV vs.length cv, .slice AL ls.length cl, .slice AD ds.length cd], .agg #[.int .i64 0, .int .i64 0, .slice none 0 0, .slice none 0 0, .slice none 0 0]] w fun e w' => e = .returned (.bool (emptyS i t vs ls ds)) ∧ Fresh w w' := by
  obtain ⟨W, hW⟩ : ∃ W, (w.alloc (.cells #[.int .i64 i, .int .i64 t, .slice AV vs.length cv, .slice AL ls.length cl, .slice AD ds.length cd] 28)).alloc (.cells #[.int .i64 0, .int .i64 0, .slice none 0 0, .slice none 0 0, .slice none 0 0] 28) = W := ⟨_, rfl⟩
  have hFW : Fresh w W := by rw [← hW]; exact ((Frm.refl _ w).alloc _).alloc _
  have hBX : Blk W w.heap.size 28 #[.int .i64 i, .int .i64 t, .slice AV vs.length cv, .slice AL ls.length cl, .slice AD ds.length cd] := by rw [← hW]; exact (Blk.new w _ _).alloc _
  have hBZ : Blk W (w.heap.size + 1) 28 #[.int .i64 0, .int .i64 0, .slice none 0 0, .slice none 0 0, .slice none 0 0] := by
    rw [← hW]
    have := Blk.new (w.alloc (.cells #[.int .i64 i, .int .i64 t, .slice AV vs.length cv, .slice AL ls.length cl, .slice AD ds.length cd] 28)) 28 #[.int .i64 0, .int .i64 0, .slice none 0 0, .slice none 0 0, .slice none 0 0]
    rwa [World.size_alloc] at this
  have HF := Lib.hid hFW
  have BX := Lib.hid hBX
  have BZ := Lib.hid hBZ
  have y0 : W.cell? ⟨w.heap.size, 0, none⟩ = some (.int .i64 i) := hBX.cell 0
  have y1 : W.cell? ⟨w.heap.size, 1, none⟩ = some (.int .i64 t) := hBX.cell 1
  have y2 : W.cell? ⟨w.heap.size, 2, none⟩ = some (.slice AV vs.length cv) := hBX.cell 2
  have y3 : W.cell? ⟨w.heap.size, 3, none⟩ = some (.slice AL ls.length cl) := hBX.cell 3
  have y4 : W.cell? ⟨w.heap.size, 4, none⟩ = some (.slice AD ds.length cd) := hBX.cell 4
  have x0 : W.cell? ⟨w.heap.size + 1, 0, none⟩ = some (.int .i64 0) := hBZ.cell 0
  have x1 : W.cell? ⟨w.heap.size + 1, 1, none⟩ = some (.int .i64 0) := hBZ.cell 1
  have x2 : W.cell? ⟨w.heap.size + 1, 2, none⟩ = some (.slice none 0 0) := hBZ.cell 2
  have x3 : W.cell? ⟨w.heap.size + 1, 3, none⟩ = some (.slice none 0 0) := hBZ.cell 3
  have x4 : W.cell? ⟨w.heap.size + 1, 4, none⟩ = some (.slice none 0 0) := hBZ.cell 4
  have HS := Lib.hid (h.fresh hFW)
  have HGC := Lib.hid (sameGroupNil_any W AV AL cv cl vs ls)
  generalize hg : nilB vs ls = r at HGC
  have HRR : Hid (nilB vs ls = r) := Lib.hid hg
  clear h hFW hBX hBZ hg
  go_enter Try.func85, Try.ntmps85
  go_wp2_with fail
  clear hW
  refine HGC.out.mono ?_
  rintro e w1 ⟨rfl, f1⟩
  have b1 := BX.out.frm f1 (fun f => f)
  have b2 := BZ.out.frm f1 (fun f => f)
  have z0 : w1.cell? ⟨w.heap.size, 0, none⟩ = some (.int .i64 i) := b1.cell 0
  have z1 : w1.cell? ⟨w.heap.size, 1, none⟩ = some (.int .i64 t) := b1.cell 1
  have z2 : w1.cell? ⟨w.heap.size, 2, none⟩ = some (.slice AV vs.length cv) := b1.cell 2
  have z3 : w1.cell? ⟨w.heap.size, 3, none⟩ = some (.slice AL ls.length cl) := b1.cell 3
  have z4 : w1.cell? ⟨w.heap.size, 4, none⟩ = some (.slice AD ds.length cd) := b1.cell 4
  have u0 : w1.cell? ⟨w.heap.size + 1, 0, none⟩ = some (.int .i64 0) := b2.cell 0
  have u1 : w1.cell? ⟨w.heap.size + 1, 1, none⟩ = some (.int .i64 0) := b2.cell 1
  have u2 : w1.cell? ⟨w.heap.size + 1, 2, none⟩ = some (.slice none 0 0) := b2.cell 2
  have u3 : w1.cell? ⟨w.heap.size + 1, 3, none⟩ = some (.slice none 0 0) := b2.cell 3
  have u4 : w1.cell? ⟨w.heap.size + 1, 4, none⟩ = some (.slice none 0 0) := b2.cell 4
  have qa : (convert 26 9 (.slice AD ds.length cd)).run Try.prog w1 = .ok (.string (str ds)) w1 := Rc.conv_u cd (HS.out.fresh f1).rd rfl
  have qb : (convert 26 9 (.slice none 0 0)).run Try.prog w1 = .ok (.string (str [])) w1 := Rc.conv_u 0 (Rd.nil w1 0 none) rfl
  have HF1 := Lib.hid (HF.out.trans f1)
  clear f1 b1 b2 y0 y1 y2 y3 y4 x0 x1 x2 x3 x4
  by_cases c0 : i = 0
  · by_cases c1 : t = 0
    · by_cases hg1 : vs.length = 0 ∧ ls.length = 0
      · have HR : Hid (r = true) := Lib.hid (by rw [← HRR.out]; unfold nilB; rw [decide_eq_true hg1.1, decide_eq_true hg1.2]; rfl)
        obtain rfl : r = true := HR.out
        by_cases hd : ds.length = 0
        · have HV : Hid (emptyS i t vs ls ds = true) := Lib.hid (by unfold emptyS; exact decide_eq_true (by omega))
          have hq2 : ((str ds).toList == (str []).toList) = true := by rw [List.eq_nil_of_length_eq_zero hd]; simp
          have HD := Lib.hid hd
          have HG1 := Lib.hid hg1
          clear hd hg1
          go_wp2_with fail
          go_ret
          exact ⟨by first | exact ret_b HV.out.symm | (rw [HV.out]; simp <;> omega), HF1.out⟩
        · have HV : Hid (emptyS i t vs ls ds = false) := Lib.hid (by unfold emptyS; exact decide_eq_false (by omega))
          have hq2 : ((str ds).toList == (str []).toList) = false := by rw [str_toList, str_toList, beq_eq_false_iff_ne]; intro e; rw [e] at hd; exact hd rfl
          go_wp2_with fail
          go_ret
          exact ⟨by first | exact ret_b HV.out.symm | (rw [HV.out]; simp <;> omega), HF1.out⟩
      · have HR : Hid (r = false) := Lib.hid (by
          rw [← HRR.out]
          unfold nilB
          rw [← Bool.not_eq_true, Bool.and_eq_true, decide_eq_true_eq, decide_eq_true_eq]
          exact hg1)
        obtain rfl : r = false := HR.out
        have HV : Hid (emptyS i t vs ls ds = false) := Lib.hid (by unfold emptyS; exact decide_eq_false (by omega))
        go_wp2_with fail
        go_ret
        exact ⟨by first | exact ret_b HV.out.symm | (rw [HV.out]; simp <;> omega), HF1.out⟩
    · have HV : Hid (emptyS i t vs ls ds = false) := Lib.hid (by unfold emptyS; exact decide_eq_false (by omega))
      go_wp2_with fail
      go_ret
      exact ⟨by first | exact ret_b HV.out.symm | (rw [HV.out]; simp <;> omega), HF1.out⟩
  · have HV : Hid (emptyS i t vs ls ds = false) := Lib.hid (by unfold emptyS; exact decide_eq_false (by omega))
    go_wp2_with fail
    go_ret
    exact ⟨by first | exact ret_b HV.out.symm | (rw [HV.out]; simp <;> omega), HF1.out⟩
set_option maxHeartbeats 2000000 in
theorem zeroS_any (w : World) (i t : Int) (AV AL AD : Option Addr) (cv cl cd : Nat) (vs ls : List Int) (ds : List UInt8) (h : RdS w AV AL AD vs ls ds) :
    Calls Try.prog 47 #[.agg #[.int .i64 i, .int .i64 t, .slice AV vs.length cv, .slice AL ls.length cl, .slice AD ds.length cd]] w fun e w' => e = .returned (.bool (emptyS i t vs ls ds)) ∧ Fresh w w' := by
  obtain ⟨W, hW⟩ : ∃ W, w.alloc (.cells #[.int .i64 i, .int .i64 t, .slice AV vs.length cv, .slice AL ls.length cl, .slice AD ds.length cd] 28) = W := ⟨_, rfl⟩
  have hFW : Fresh w W := by rw [← hW]; exact (Frm.refl _ w).alloc _
  have hBX : Blk W w.heap.size 28 #[.int .i64 i, .int .i64 t, .slice AV vs.length cv, .slice AL ls.length cl, .slice AD ds.length cd] := by rw [← hW]; exact Blk.new w _ _
  have HF := Lib.hid hFW
  have BX := Lib.hid hBX
  have y0 : W.cell? ⟨w.heap.size, 0, none⟩ = some (.int .i64 i) := hBX.cell 0
  have y1 : W.cell? ⟨w.heap.size, 1, none⟩ = some (.int .i64 t) := hBX.cell 1
  have y2 : W.cell? ⟨w.heap.size, 2, none⟩ = some (.slice AV vs.length cv) := hBX.cell 2
  have y3 : W.cell? ⟨w.heap.size, 3, none⟩ = some (.slice AL ls.length cl) := hBX.cell 3
  have y4 : W.cell? ⟨w.heap.size, 4, none⟩ = some (.slice AD ds.length cd) := hBX.cell 4
  clear hFW hBX
  have HC := Lib.hid (sameSnapZero_any W i t AV AL AD cv cl cd vs ls ds (h.fresh HF.out))
  clear h
  go_enter Try.func47, Try.ntmps47
  go_wp2_with fail
  clear hW
  refine HC.out.mono ?_
  rintro e w1 ⟨rfl, f1⟩
  have HF1 := Lib.hid (HF.out.trans f1)
  clear f1
  go_wp2_with fail
  go_ret
  exact ⟨rfl, HF1.out⟩
end Go.Proofs.Ytlceembcehokoaa

/- The law NetCuts walked. -/
import Derived.Test.YtlceembcehokoaaNet13
namespace Go.Proofs.Ytlceembcehokoaa
open Go.RowKit Go.Maps
set_option maxRecDepth 100000

set_option maxHeartbeats 1000000 in
theorem cut_any (w0 w : World) (b m n c : Nat) (D : DataW Unit) (h : IsC w0 b m n c D w) (hc : c ≤ 100) (x y : Int) (wx : (Lit.int .i64 x).wf = true) (wy : (Lit.int .i64 y).wf = true) :
    Calls Try.prog 20 #[.pointer (some ⟨b, 0, none⟩), .int .i64 x, .int .i64 y] w fun e w' => SetPost w0 b m n c D x y true e w' := by
  have HS := Lib.hid (set_any w0 w b m n c D h hc x y wx wy true)
  unfold SetPost at HS ⊢
  cases hk : okPair x y with
  | true =>
    simp only [hk, if_true] at HS ⊢
    clear h wx wy
    go_enter Try.func20, Try.ntmps20
    go_wp2_with fail
    refine HS.out.mono ?_
    rintro e w' ⟨rfl, h'⟩
    have H := Lib.hid h'
    clear h'
    go_wp2_with fail
    go_ret
    exact ⟨rfl, H.out⟩
  | false =>
    simp only [hk, Bool.false_eq_true, if_false] at HS ⊢
    clear h wx wy
    go_enter Try.func20, Try.ntmps20
    go_wp2_with fail
    refine HS.out.mono ?_
    rintro e w' ⟨rfl, h'⟩
    have H := Lib.hid h'
    clear h'
    go_wp2_with fail
    go_ret
    exact ⟨rfl, H.out⟩
set_option maxHeartbeats 1000000 in
theorem heal_any (w0 w : World) (b m n c : Nat) (D : DataW Unit) (h : IsC w0 b m n c D w) (hc : c ≤ 100) (x y : Int) (wx : (Lit.int .i64 x).wf = true) (wy : (Lit.int .i64 y).wf = true) (hk : okPair x y = true) :
    Calls Try.prog 21 #[.pointer (some ⟨b, 0, none⟩), .int .i64 x, .int .i64 y] w fun e w' => e = .returned (.int .i64 0) ∧ IsC w0 b m n (c + 2) ((D.put (keyL x y) (.lit (.bool false))).put (keyL y x) (.lit (.bool false))) w' := by
  have HS := Lib.hid (set_any w0 w b m n c D h hc x y wx wy false)
  unfold SetPost at HS
  simp only [hk, if_true] at HS
  clear h wx wy hk
  go_enter Try.func21, Try.ntmps21
  go_wp2_with fail
  refine HS.out.mono ?_
  rintro e w' ⟨rfl, h'⟩
  have H := Lib.hid h'
  clear h'
  go_wp2_with fail
  go_ret
  exact ⟨rfl, H.out⟩
theorem IsN.isC {w0 w : World} {b m : Nat} (h : IsN w0 b m 0 w) (hm : w0.heap.size ≤ m) : IsC w0 b m 0 0 (.map []) w := ⟨h.ex, h.map, ⟨h.low, hm⟩, h.frm⟩
theorem keyL_inj {x y x' y' : Int} (wx : (Lit.int .i64 x).wf = true) (wy : (Lit.int .i64 y).wf = true) (wx' : (Lit.int .i64 x').wf = true) (wy' : (Lit.int .i64 y').wf = true) (h : keyL x y = keyL x' y') : x = x' ∧ y = y' := by
  have h1 := WideMaps.keyOf_pair (a := x) (b := y) pair_key Try.underlying3 types_size wx wy
  have h2 := WideMaps.keyOf_pair (a := x') (b := y') pair_key Try.underlying3 types_size wx' wy'
  have h3 : keyBytes [.int .i64 x, .int .i64 y] = keyBytes [.int .i64 x', .int .i64 y'] := by injection h
  rw [h3] at h1
  have := pair_key.law.inj h1 h2
  simpa using this
set_option maxHeartbeats 1000000 in
theorem newC_any (w0 w : World) (F : Fresh w0 w) : Calls Try.prog 17 #[] w fun e w' => ∃ b m, e = .returned (.pointer (some ⟨b, 0, none⟩)) ∧ IsC w0 b m 0 0 (.map []) w' := by
  have hmm := @run_makeMap Try.prog
  have HF := Lib.hid F
  have HB := Lib.hid (Blk.new (w.alloc (.map #[] 0)) 97 #[.slice none 0 0, .map (some w.heap.size)])
  have HM : Hid (IsC w0 (w.alloc (.map #[] 0)).heap.size w.heap.size 0 0 (.map []) ((w.alloc (.map #[] 0)).alloc (.cells #[.slice none 0 0, .map (some w.heap.size)] 97))) :=
    Lib.hid ⟨⟨_, _, HB.out, Sl.nil _ _ _ _⟩, OM.frm (World.ownsMap_made w _ _ _) ((Frm.refl (fun _ => False) _).alloc _) (fun f => f), ⟨by have := F.size; rw [World.size_alloc]; omega, F.size⟩, (F.alloc _).alloc _⟩
  clear F
  go_enter Try.func17, Try.ntmps17
  go_wp2_with fail
  go_ret
  exact ⟨_, _, by simp, HM.out⟩
abbrev cutD (x y : Int) : DataW Unit := ((DataW.map []).put (keyL x y) (.lit (.bool true))).put (keyL y x) (.lit (.bool true))
abbrev healD (x y : Int) : DataW Unit := ((cutD x y).put (keyL y x) (.lit (.bool false))).put (keyL x y) (.lit (.bool false))
theorem key_lit (x y : Int) : WideAt.IsKeyLit (keyL x y) := by simp [WideAt.IsKeyLit]
set_option maxHeartbeats 8000000 in
theorem cuts_walk (w : World) (x : Int) (wx : (Lit.int .i64 x).wf = true) (y : Int) (wy : (Lit.int .i64 y).wf = true) (z : Int) (wz : (Lit.int .i64 z).wf = true) :
    Calls Try.prog 7 #[.int .i64 x, .int .i64 y, .int .i64 z] w fun e w' => e = .returned (.bool true) ∧ Below w.heap.size w w' := by
  have HWX := Lib.hid wx
  have HWY := Lib.hid wy
  have HWZ := Lib.hid wz
  clear wx wy wz
  go_enter Try.func7, Try.ntmps7
  go_wp2_with fail
  refine (awake_any w).mono ?_
  rintro e w1 ⟨rfl, f1⟩
  have HF1 := Lib.hid f1
  clear f1
  go_wp2_with fail
  refine (newC_any w w1 HF1.out).mono ?_
  rintro e w2 ⟨b, m, rfl, hn⟩
  have HN := Lib.hid hn
  clear hn
  have HC := Lib.hid (cut_any w w2 b m 0 0 _ HN.out (by omega) x y HWX.out HWY.out)
  unfold SetPost at HC
  by_cases hok : 1 ≤ x ∧ x ≤ 15 ∧ 1 ≤ y ∧ y ≤ 15 ∧ x ≠ y
  · have hokb : okPair x y = true := by unfold okPair; simpa using hok
    have hokc : okPair y x = true := by unfold okPair; simp only [decide_eq_true_eq]; exact ⟨hok.2.2.1, hok.2.2.2.1, hok.1, hok.2.1, Ne.symm hok.2.2.2.2⟩
    simp only [hokb, if_true] at HC
    obtain ⟨a1, a2, a3, a4, a5⟩ := hok
    have ne1 : keyL x y ≠ keyL y x := fun e => a5 (keyL_inj HWX.out HWY.out HWY.out HWX.out e).1
    have at1 : (cutD x y).atKey (keyL x y) (.lit (.bool false)) = .lit (.bool true) := by
      rw [atKey_put_other ne1, atKey_put_same ⟨_, rfl⟩ (key_lit _ _)]
    have at2 : (cutD x y).atKey (keyL y x) (.lit (.bool false)) = .lit (.bool true) := atKey_put_same ⟨_, rfl⟩ (key_lit _ _) _ _
    have at3 : (cutD x y).atKey (keyL x z) (.lit (.bool false)) = .lit (.bool (decide (z = y))) := by
      by_cases e : z = y
      · rw [e, at1]; simp
      · rw [atKey_put_other (fun k => a5 (keyL_inj HWX.out HWZ.out HWY.out HWX.out k).1), atKey_put_other (fun k => e (keyL_inj HWX.out HWZ.out HWX.out HWY.out k).2)]
        simp [e]
        rfl
    have at4 : (healD x y).atKey (keyL x y) (.lit (.bool false)) = .lit (.bool false) := atKey_put_same ⟨_, rfl⟩ (key_lit _ _) _ _
    have S1 : Hid (∀ w', IsC w b m 0 2 (cutD x y) w' → Calls Try.prog 18 #[.pointer (some ⟨b, 0, none⟩), .agg #[.int .i64 x, .int .i64 y, .slice none 0 0]] w' fun e w'' => e = .returned (.bool false) ∧ IsC w b m 0 2 (cutD x y) w'') := Lib.hid fun w' h => (sendC_any w w' b m 0 2 _ h (by omega) x y a1 a2 HWX.out HWY.out true at1).mono (fun e w'' hp => by unfold SendCPost at hp; rw [if_neg (by simp)] at hp; exact hp)
    have S2 : Hid (∀ w', IsC w b m 0 2 (cutD x y) w' → Calls Try.prog 18 #[.pointer (some ⟨b, 0, none⟩), .agg #[.int .i64 y, .int .i64 x, .slice none 0 0]] w' fun e w'' => e = .returned (.bool false) ∧ IsC w b m 0 2 (cutD x y) w'') := Lib.hid fun w' h => (sendC_any w w' b m 0 2 _ h (by omega) y x a3 a4 HWY.out HWX.out true at2).mono (fun e w'' hp => by unfold SendCPost at hp; rw [if_neg (by simp)] at hp; exact hp)
    have S3 : Hid (∀ w', IsC w b m 0 2 (cutD x y) w' → Calls Try.prog 18 #[.pointer (some ⟨b, 0, none⟩), .agg #[.int .i64 x, .int .i64 z, .slice none 0 0]] w' fun e w'' => e = .returned (.bool (decide (1 ≤ z) && decide (z ≤ 15) && !decide (z = y))) ∧ ∃ n, n ≤ 1 ∧ IsC w b m n 2 (cutD x y) w'') := Lib.hid fun w' h => by
      refine (sendC_any w w' b m 0 2 _ h (by omega) x z a1 a2 HWX.out HWZ.out _ at3).mono ?_
      intro e w'' hp
      unfold SendCPost at hp
      split at hp
      · rename_i hh
        refine ⟨?_, 1, by omega, hp.2⟩
        rw [hp.1]
        simp [hh.1.1, hh.1.2, hh.2]
      · rename_i hh
        refine ⟨?_, 0, by omega, hp.2⟩
        rw [hp.1]
        by_cases h1 : 1 ≤ z <;> by_cases h2 : z ≤ 15 <;> by_cases h3 : z = y <;> simp_all
    have H4 := Lib.hid fun n (hn : n ≤ 1) w' (h : IsC w b m n 2 (cutD x y) w') => heal_any w w' b m n 2 _ h (by omega) y x HWY.out HWX.out hokc
    have S5 : Hid (∀ n, n ≤ 1 → ∀ w', IsC w b m n (2 + 2) (healD x y) w' → Calls Try.prog 18 #[.pointer (some ⟨b, 0, none⟩), .agg #[.int .i64 x, .int .i64 y, .slice none 0 0]] w' fun e w'' => e = .returned (.bool true) ∧ IsC w b m (n + 1) (2 + 2) (healD x y) w'') := Lib.hid fun n hn w' h => (sendC_any w w' b m n (2 + 2) _ h (by omega) x y a1 a2 HWX.out HWY.out false at4).mono (fun e w'' hp => by unfold SendCPost at hp; rw [if_pos ⟨⟨a3, a4⟩, rfl⟩] at hp; exact hp)
    clear at1 at2 at3 at4 ne1 hokb hokc
    go_wp2_with fail
    refine HC.out.mono ?_
    rintro e w3 ⟨rfl, h3⟩
    have H3 := Lib.hid h3
    clear h3
    go_wp2_with fail
    refine (S1.out w3 H3.out).mono ?_
    rintro e w4 ⟨rfl, h4⟩
    have HX4 := Lib.hid h4
    clear h4
    go_wp2_with fail
    refine (S2.out w4 HX4.out).mono ?_
    rintro e w5 ⟨rfl, h5⟩
    have HX5 := Lib.hid h5
    clear h5
    go_wp2_with fail
    refine (S3.out w5 HX5.out).mono ?_
    rintro e w6 ⟨rfl, n6, hn6, h6⟩
    have HX6 := Lib.hid h6
    clear h6
    obtain ⟨oth, hoth⟩ : ∃ oth, oth = (decide (1 ≤ z) && decide (z ≤ 15) && !decide (z = y)) := ⟨_, rfl⟩
    rw [← hoth]
    have HO := Lib.hid hoth
    clear hoth
    go_wp2_with fail
    refine (H4.out n6 hn6 w6 HX6.out).mono ?_
    rintro e w7 ⟨rfl, h7⟩
    have HX7 := Lib.hid h7
    clear h7
    go_wp2_with fail
    refine (S5.out n6 hn6 w7 HX7.out).mono ?_
    rintro e w8 ⟨rfl, h8⟩
    have HX8 := Lib.hid h8
    clear h8
    have hres := HO.out
    by_cases z1 : 1 ≤ z
    · by_cases z2 : z ≤ 15
      · by_cases z3 : z = y
        · subst z3
          simp only [z1, z2, decide_true, Bool.and_self, Bool.not_true, Bool.and_false] at hres
          subst hres
          go_wp2_with fail
          go_ret
          exact ⟨by simp, Fresh.below HX8.out.frm⟩
        · simp only [z1, z2, z3, decide_true, decide_false, Bool.and_self, Bool.not_false, Bool.and_true] at hres
          subst hres
          go_wp2_with fail
          go_ret
          exact ⟨by simp [z3], Fresh.below HX8.out.frm⟩
      · simp only [z1, z2, decide_true, decide_false, Bool.and_false, Bool.false_and] at hres
        subst hres
        go_wp2_with fail
        go_ret
        exact ⟨by simp, Fresh.below HX8.out.frm⟩
    · simp only [z1, decide_false, Bool.false_and] at hres
      subst hres
      go_wp2_with fail
      go_ret
      exact ⟨by simp, Fresh.below HX8.out.frm⟩
  · have hokb : okPair x y = false := by unfold okPair; simpa using hok
    simp only [hokb, Bool.false_eq_true, if_false] at HC
    go_wp2_with fail
    refine HC.out.mono ?_
    rintro e w3 ⟨rfl, h3⟩
    have H3 := Lib.hid h3
    clear h3
    by_cases c1 : x < 1
    · go_wp2_with fail
      go_ret
      exact ⟨by simp, Fresh.below H3.out.frm⟩
    · by_cases c2 : 15 < x
      · go_wp2_with fail
        go_ret
        exact ⟨by simp, Fresh.below H3.out.frm⟩
      · by_cases c3 : y < 1
        · go_wp2_with fail
          go_ret
          exact ⟨by simp, Fresh.below H3.out.frm⟩
        · by_cases c4 : 15 < y
          · go_wp2_with fail
            go_ret
            exact ⟨by simp, Fresh.below H3.out.frm⟩
          · have c5 : x = y := by
              by_cases e : x = y
              · exact e
              · exact absurd ⟨by omega, by omega, by omega, by omega, e⟩ hok
            subst c5
            go_wp2_with fail
            go_ret
            exact ⟨by simp, Fresh.below H3.out.frm⟩
end Go.Proofs.Ytlceembcehokoaa

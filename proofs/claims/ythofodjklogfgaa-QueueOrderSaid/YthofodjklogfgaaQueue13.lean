/- The law QueueOrder walked. -/
import Derived.Test.YthofodjklogfgaaQueue12
namespace Go.Proofs.Ythofodjklogfgaa
open Go.RowKit QueueM
attribute [local go_sem] run_store_float

/-- the i-th one, with an Id of its own; the same from behind -/
def zth (ws : List Wt) (i : Nat) : Wt := { ws.getD i ⟨0, 0, 0, 0, 0⟩ with id := (i : Int) + 1 }
def yth (ws : List Wt) (n i : Nat) : Wt := { ws.getD (n - 1 - i) ⟨0, 0, 0, 0, 0⟩ with id := (n : Int) - (i : Int) }
theorem zth_ids (ws : List Wt) : ∀ i j, i < j → (zth ws i).id ≠ (zth ws j).id := fun i j h => by unfold zth; dsimp only; omega
theorem yth_ids (ws : List Wt) (n : Nat) : ∀ i j, i < j → (yth ws n i).id ≠ (yth ws n j).id := fun i j h => by unfold yth; dsimp only; omega
theorem yth_zth (ws : List Wt) (n j : Nat) (h : j < n) : yth ws n j = zth ws (n - 1 - j) := by
  unfold yth zth
  rw [show (n : Int) - (j : Int) = ((n - 1 - j : Nat) : Int) + 1 by omega]
theorem words_build {ws : List Wt} (hw : Words ws) (n : Nat) (hn : n ≤ 200) : Words (build (zth ws) n) := by
  intro x hx
  obtain ⟨j, _, rfl, _⟩ := ((built (zth_ids ws) n hn).mem x).1 hx
  unfold zth
  dsimp only
  rcases Nat.lt_or_ge j ws.length with h | h
  · rw [List.getD_eq_getElem?_getD, List.getElem?_eq_getElem h]
    exact hw _ (List.getElem_mem h)
  · rw [List.getD_eq_getElem?_getD, List.getElem?_eq_none h]
    simp
theorem get_five {w : World} {B : Nat} {A : Option Addr} {l : List Wt} (h : Rd w B A (l.flatMap wcells)) {i : Nat} (hi : i < l.length) :
    ∃ b o, A = some ⟨b, o, none⟩ ∧ b < B ∧ Five w b (o + i * 5) (l.getD i ⟨0, 0, 0, 0, 0⟩) := by
  obtain ⟨b, o, h1, h2, h3⟩ := five_at h hi
  refine ⟨b, o, h1, h2, ?_⟩
  rw [List.getD_eq_getElem?_getD, List.getElem?_eq_getElem hi]
  exact h3
set_option maxRecDepth 100000 in
set_option maxHeartbeats 4000000 in
theorem order_law (w : World) (A : Option Addr) (cap : Nat) (ws : List Wt) (hA : Rd w w.heap.size A (ws.flatMap wcells)) (hw : Words ws) (hlen : ws.length ≤ 9223372036854775807) :
    Calls Try.prog 3 #[.slice A ws.length cap] w fun e w' => e = .returned (.bool true) ∧ Below w.heap.size w w' := by
  have HA := Lib.hid hA
  have HW := Lib.hid hw
  obtain ⟨n, hn⟩ : ∃ n, min ws.length 60 = n := ⟨_, rfl⟩
  have hif : (if (60 : Int) < (ws.length : Int) then (60 : Int) else (ws.length : Int)) = (n : Int) := by split <;> omega
  have hn60 : n ≤ 60 := by omega
  have hnl : n ≤ ws.length := by omega
  clear hA hw hn
  go_enter Try.func3, Try.ntmps3
  go_wp2_with fail
  refine (awake_any w).mono ?_
  rintro e w1 ⟨rfl, f1⟩
  have HF1 := Lib.hid f1
  clear f1
  go_wp2_with fail
  refine (new_any w1).mono ?_
  rintro e w2 ⟨rfl, q1, f2⟩
  have HF2 := Lib.hid (HF1.out.trans f2)
  have HQ1 := Lib.hid (q1.less (B' := w.heap.size) HF1.out.size)
  clear q1
  go_wp2_with fail
  refine (new_any w2).mono ?_
  rintro e w3 ⟨rfl, q2, f3⟩
  have HT : Hid (Two w w1.heap.size w2.heap.size (.slice none 0 0) (.slice none 0 0) [] [] w3) := Lib.hid ⟨HQ1.out.fresh f3, q2.less (B' := w.heap.size) HF2.out.size, by have := HQ1.out.blk.lt; omega, fun k hk => by simp [Value.ownBlock] at hk, HF2.out.trans f3⟩
  clear q2 f2 f3
  generalize w1.heap.size = b4 at HT
  generalize w2.heap.size = b5 at HT
  go_wp2_with fail
  go_loopw [7] (fun v7 wr => ∃ (i : Nat) (v v' : Value), i ≤ n ∧ v7 = .int .i64 (i : Int) ∧ Two w b4 b5 v v' (build (zth ws) i) (build (yth ws n) i) wr) (fun v7 _ => n - (intOf v7).toNat)
  case atStart => exact ⟨0, _, _, by omega, rfl, HT.out⟩
  case round =>
    obtain ⟨i, v, v', hin, rfl, T⟩ := hrel
    have HTT := Lib.hid T
    have hi0 : (0 : Int) ≤ (i : Int) := by omega
    have hi60 : (i : Int) ≤ 60 := by omega
    have hn60i : (n : Int) ≤ 60 := by omega
    have G1 := Lib.hid (built (zth_ids ws) i (by omega))
    have G2 := Lib.hid (built (yth_ids ws n) i (by omega))
    by_cases hlt : i < n
    · obtain ⟨b, o, rfl, _, p5⟩ := get_five ((HA.out.fresh (Nat.le_refl _) T.frm).more T.frm.size) (i := i) (by omega)
      obtain ⟨m, hm⟩ : ∃ m, n - 1 - i = m := ⟨_, rfl⟩
      obtain ⟨b', o', e1, _, q5⟩ := get_five ((HA.out.fresh (Nat.le_refl _) T.frm).more T.frm.size) (i := m) (by omega)
      injection e1 with e1
      injection e1 with e1 e2 _
      subst e1 e2
      obtain ⟨x, hx⟩ : ∃ x, x = ws.getD i ⟨0, 0, 0, 0, 0⟩ := ⟨_, rfl⟩
      obtain ⟨y, hy⟩ : ∃ y, y = ws.getD m ⟨0, 0, 0, 0, 0⟩ := ⟨_, rfl⟩
      rw [← hx] at p5
      rw [← hy] at q5
      obtain ⟨xi, xc, xm, xt, xs⟩ := x
      obtain ⟨yi, yc, ym, yt, ys⟩ := y
      obtain ⟨c0, c1, c2, c3, c4⟩ := p5
      obtain ⟨d0, d1, d2, d3, d4⟩ := q5
      dsimp only at c0 c1 c2 c3 c4 d0 d1 d2 d3 d4
      have HZ : Hid (zth ws i = ⟨(i : Int) + 1, xc, xm, xt, xs⟩) := Lib.hid (by unfold zth; rw [← hx])
      have HY : Hid (yth ws n i = ⟨(n : Int) - (i : Int), yc, ym, yt, ys⟩) := Lib.hid (by unfold yth; rw [hm, ← hy])
      have hmi : (n : Int) - 1 - (i : Int) = (m : Int) := by omega
      have hm0 : (0 : Int) ≤ (m : Int) := by omega
      have hml : (m : Int) < (ws.length : Int) := by omega
      have hml2 : m < ws.length := by omega
      have hil : (i : Int) < (ws.length : Int) := by omega
      have hil2 : i < ws.length := by omega
      have hini : (i : Int) < (n : Int) := by omega
      have C1 := add_code (zth_ids ws) (i := i) (by omega)
      have C2 := add_code (yth_ids ws n) (i := i) (by omega)
      rw [HZ.out] at C1
      rw [HY.out] at C2
      obtain ⟨W, hW⟩ : ∃ W, W = (wr.alloc (.cells #[.int .i64 ((i : Int) + 1), .int .i64 xc, .int .i64 xm, .int .i64 xt, .float .f64 xs] 28)).alloc (.cells #[.int .i64 ((n : Int) - (i : Int)), .int .i64 yc, .int .i64 ym, .int .i64 yt, .float .f64 ys] 28) := ⟨_, rfl⟩
      have FW : Fresh wr W := by rw [hW]; exact ((Frm.refl _ wr).alloc _).alloc _
      have TW := Lib.hid (T.fresh FW)
      have HA1 := Lib.hid (add_any W w.heap.size b4 v (build (zth ws) i) ⟨(i : Int) + 1, xc, xm, xt, xs⟩ TW.out.one G1.out.good)
      unfold wagg at HA1
      have BY : Blk W (wr.heap.size + 1) 28 (wcells ⟨(n : Int) - (i : Int), yc, ym, yt, ys⟩).toArray := by
        rw [hW]
        have := Blk.new (wr.alloc (.cells #[.int .i64 ((i : Int) + 1), .int .i64 xc, .int .i64 xm, .int .i64 xt, .float .f64 xs] 28)) 28 #[.int .i64 ((n : Int) - (i : Int)), .int .i64 yc, .int .i64 ym, .int .i64 yt, .float .f64 ys]
        rwa [World.size_alloc] at this
      have HBY := Lib.hid BY
      clear hm hx hy T BY FW
      rw [hW] at HA1
      go_wp2_with fail
      refine HA1.out.mono ?_
      rw [← hW]
      rintro e w5 ⟨rfl, s1⟩
      obtain ⟨v2, T5, F5⟩ := TW.out.step s1
      have hb4 := HTT.out.one.blk.lt
      obtain ⟨d0, d1, d2, d3, d4⟩ := five_blk (HBY.out.frm F5 (fun hh => hh.elim (fun e => by omega) (fun e => by
        have := (HTT.out.one.sl.lt _ e).2
        omega)))
      dsimp only at d0 d1 d2 d3 d4
      have HA2 := Lib.hid (add_any w5 w.heap.size b5 v' (build (yth ws n) i) ⟨(n : Int) - (i : Int), yc, ym, yt, ys⟩ T5.two G2.out.good)
      unfold wagg at HA2
      have HT5 := Lib.hid T5
      generalize (add ⟨(i : Int) + 1, xc, xm, xt, xs⟩ (build (zth ws) i)).1 = k1 at C1
      clear T5 F5 s1 hW
      go_wp2_with fail
      refine HA2.out.mono ?_
      rintro e w6 ⟨rfl, s2⟩
      obtain ⟨v3, T6, _⟩ := HT5.out.symm.step s2
      have HT6 : Hid (Two w b4 b5 v2 v3 (build (zth ws) (i + 1)) (build (yth ws n) (i + 1)) w6) := Lib.hid (by
        show Two w b4 b5 v2 v3 (add (zth ws i) (build (zth ws) i)).2 (add (yth ws n i) (build (yth ws n) i)).2 w6
        rw [HZ.out, HY.out]
        exact T6.symm)
      generalize (add ⟨(n : Int) - (i : Int), yc, ym, yt, ys⟩ (build (yth ws n) i)).1 = k2 at C2
      clear T6 s2 d0 d1 d2 d3 d4 hmi
      rcases C1 with rfl | rfl <;> rcases C2 with rfl | rfl
      all_goals
        go_wp2_with fail
        go_roundw
        case rel => exact ⟨i + 1, v2, v3, by omega, by go_num, HT6.out⟩
        case measure => simp [intOf]; omega
    · obtain rfl : i = n := by omega
      have HEQ := Lib.hid (build_rev (n := i) (by omega) (zth_ids ws) (yth_ids ws i) (fun j hj => yth_zth ws i j hj))
      have HWB := Lib.hid (words_build HW.out i (by omega))
      have HSO := Lib.hid G1.out.good.sorted
      have hle := G1.out.len
      rw [← HEQ.out] at HTT
      generalize build (zth ws) i = L at HTT HWB HSO hle
      have HALL1 := Lib.hid (all_any wr w.heap.size b4 v L HTT.out.one (by omega))
      clear T G1 G2 HEQ
      go_wp2_with fail
      refine HALL1.out.mono ?_
      rintro e w4 ⟨u4, rfl, hs4, f4⟩
      have HT4 := Lib.hid (HTT.out.fresh f4)
      obtain ⟨A4, c4, rfl, hc4, hc42, _⟩ := hs4.shape
      unfold maxLen at hc42
      have HS4 := Lib.hid hs4
      have HALL2 := Lib.hid (all_any w4 w.heap.size b5 v' L HT4.out.two (by omega))
      clear f4 hs4
      go_wp2_with fail
      refine HALL2.out.mono ?_
      rintro e w5 ⟨u5, rfl, hs5, f5⟩
      have HT5 := Lib.hid (HT4.out.fresh f5)
      have HS45 := Lib.hid (HS4.out.fresh f5)
      obtain ⟨A5, c5, rfl, hc5, hc52, _⟩ := hs5.shape
      have HSM := Lib.hid (sameWaits_any w5 A4 A5 c4 c5 L HS45.out.rd hs5.rd (by omega) HWB.out)
      clear f5 hs5
      go_wp2_with fail
      refine HSM.out.mono ?_
      rintro e w6 ⟨rfl, f6⟩
      have HT6 := Lib.hid (HT5.out.fresh f6)
      have HS6 := Lib.hid (HS45.out.fresh f6)
      clear f6
      go_wp2_with fail
      go_loopw [14] (fun v14 wq => ∃ k : Nat, 1 ≤ k ∧ k ≤ L.length + 1 ∧ v14 = .int .i64 (k : Int) ∧ Fresh w6 wq) (fun v14 _ => L.length + 1 - (intOf v14).toNat)
      case atStart => exact ⟨1, by omega, by omega, rfl, Frm.refl _ _⟩
      case round =>
        obtain ⟨k, hk1, hk2, rfl, hf⟩ := hrel
        have HF := Lib.hid hf
        have hk0 : (0 : Int) ≤ (k : Int) := by omega
        have hk01 : (1 : Int) ≤ (k : Int) := by omega
        by_cases hkl : k < L.length
        · obtain ⟨m, hm⟩ : ∃ m, k - 1 = m := ⟨_, rfl⟩
          obtain ⟨b, o, rfl, _, p5⟩ := five_at (HS6.out.fresh hf).rd (i := m) (by omega)
          obtain ⟨b2, o2, e1, _, q5⟩ := five_at (HS6.out.fresh hf).rd hkl
          injection e1 with e1
          injection e1 with e1 e2 _
          subst e1 e2
          have hah : QueueM.ahead (L[m]'(by omega)) L[k] = true := List.pairwise_iff_getElem.1 HSO.out m k (by omega) hkl (by omega)
          obtain ⟨x, hx⟩ : ∃ x, x = L[m]'(by omega) := ⟨_, rfl⟩
          obtain ⟨y, hy⟩ : ∃ y, y = L[k] := ⟨_, rfl⟩
          rw [← hx] at p5 hah
          rw [← hy] at q5 hah
          have ha := refAhead_any x y wr.drew
          rw [hah] at ha
          unfold wagg at ha
          have HAH := Lib.hid ha
          obtain ⟨xi, xc, xm, xt, xs⟩ := x
          obtain ⟨yi, yc, ym, yt, ys⟩ := y
          have TEN : Hid (∀ w', Fresh wr w' → w'.cell? ⟨b, o + m * 5, none⟩ = some (.int .i64 xi) ∧ w'.cell? ⟨b, o + m * 5 + 1, none⟩ = some (.int .i64 xc) ∧ w'.cell? ⟨b, o + m * 5 + 2, none⟩ = some (.int .i64 xm) ∧ w'.cell? ⟨b, o + m * 5 + 3, none⟩ = some (.int .i64 xt) ∧ w'.cell? ⟨b, o + m * 5 + 4, none⟩ = some (.float .f64 xs) ∧
            w'.cell? ⟨b, o + k * 5, none⟩ = some (.int .i64 yi) ∧ w'.cell? ⟨b, o + k * 5 + 1, none⟩ = some (.int .i64 yc) ∧ w'.cell? ⟨b, o + k * 5 + 2, none⟩ = some (.int .i64 ym) ∧ w'.cell? ⟨b, o + k * 5 + 3, none⟩ = some (.int .i64 yt) ∧ w'.cell? ⟨b, o + k * 5 + 4, none⟩ = some (.float .f64 ys)) := Lib.hid fun w' F => by
            have a := p5.fresh F
            have c := q5.fresh F
            exact ⟨a.1, a.2.1, a.2.2.1, a.2.2.2.1, a.2.2.2.2, c.1, c.2.1, c.2.2.1, c.2.2.2.1, c.2.2.2.2⟩
          have hki : (k : Int) < (L.length : Int) := by omega
          have hw1 : IntKind.i64.wrap ((k : Int) - 1) = (m : Int) := by rw [IntWalk.i64_in _ (by omega)]; omega
          have hw3 : (0 : Int) ≤ (m : Int) := by omega
          have hw4 : (m : Int) < (L.length : Int) := by omega
          have hw5 : m < L.length := by omega
          clear hah hx hy p5 q5 hf ha hm
          go_wp2_with fail
          go_region_held3 (fun w' => w'.cell? ⟨b, o + m * 5, none⟩ = some (.int .i64 xi) ∧ w'.cell? ⟨b, o + m * 5 + 1, none⟩ = some (.int .i64 xc) ∧ w'.cell? ⟨b, o + m * 5 + 2, none⟩ = some (.int .i64 xm) ∧ w'.cell? ⟨b, o + m * 5 + 3, none⟩ = some (.int .i64 xt) ∧ w'.cell? ⟨b, o + m * 5 + 4, none⟩ = some (.float .f64 xs) ∧
            w'.cell? ⟨b, o + k * 5, none⟩ = some (.int .i64 yi) ∧ w'.cell? ⟨b, o + k * 5 + 1, none⟩ = some (.int .i64 yc) ∧ w'.cell? ⟨b, o + k * 5 + 2, none⟩ = some (.int .i64 ym) ∧ w'.cell? ⟨b, o + k * 5 + 3, none⟩ = some (.int .i64 yt) ∧ w'.cell? ⟨b, o + k * 5 + 4, none⟩ = some (.float .f64 ys))
            (first | exact TEN.out _ (Frm.refl _ _) | exact TEN.out _ ((Frm.refl _ _).drew) | exact TEN.out _ (((Frm.refl _ _).drew).trans HF3.out))
            (first
              | (go_at_call 14; refine (HAH.out).mono ?_; rintro e w3 ⟨rfl, f3⟩; have HF3 := Lib.hid f3; clear f3))
          have HFF := Lib.hid ((HF.out.drew).trans HF3.out)
          clear hw1
          go_wp2_with fail
          go_roundw
          case rel => exact ⟨k + 1, by omega, by omega, by go_num, HFF.out⟩
          case measure => simp [intOf]; omega
        · have hki : ¬ (k : Int) < (L.length : Int) := by omega
          clear hf
          go_wp2_with fail
          go_ret
          exact ⟨rfl, Fresh.below (HT6.out.frm.trans HF.out)⟩
def wf5 : (Int × Int × Int × Int × Nat) → List Value := fun a => [.int .i64 a.1] ++ ([.int .i64 a.2.1] ++ ([.int .i64 a.2.2.1] ++ ([.int .i64 a.2.2.2.1] ++ [.float .f64 a.2.2.2.2])))
def wq5 : (Int × Int × Int × Int × Nat) → Prop := fun a => (Lit.int .i64 a.1).wf = true ∧ (Lit.int .i64 a.2.1).wf = true ∧ (Lit.int .i64 a.2.2.1).wf = true ∧ (Lit.int .i64 a.2.2.2.1).wf = true ∧ (Lit.float .f64 a.2.2.2.2).wf = true
def toWt (a : Int × Int × Int × Int × Nat) : Wt := ⟨a.1, a.2.1, a.2.2.1, a.2.2.2.1, a.2.2.2.2⟩
theorem map_wt (l : List (Int × Int × Int × Int × Nat)) : l.flatMap wf5 = (l.map toWt).flatMap wcells := by
  induction l with
  | nil => rfl
  | cons x r ih => rw [List.flatMap_cons, List.map_cons, List.flatMap_cons, ih]; rfl
theorem words_wt {l : List (Int × Int × Int × Int × Nat)} (h : ∀ x ∈ l, wq5 x) : Words (l.map toWt) := by
  intro x hx
  obtain ⟨a, ha, rfl⟩ := List.mem_map.1 hx
  have := (h a ha).2.2.2.2
  simpa [Lit.wf, toWt] using this
theorem order_walk (w : World) (s : Option Addr × Nat × List (Int × Int × Int × Int × Nat)) (hs : IsL w 40 wf5 wq5 s) :
    Calls Try.prog 3 #[sv s] w fun e w' => e = .returned (.bool true) ∧ Below w.heap.size w w' := by
  obtain ⟨A, cap, l⟩ := s
  have hle : l.length ≤ cap := hs.le
  have hm : cap ≤ maxLen := hs.most
  unfold maxLen at hm
  have hr : Rd w w.heap.size A ((l.map toWt).flatMap wcells) := by rw [← map_wt]; exact hs.rd
  have h := order_law w A cap (l.map toWt) hr (words_wt hs.all) (by rw [List.length_map]; omega)
  rw [List.length_map] at h
  exact h
end Go.Proofs.Ythofodjklogfgaa

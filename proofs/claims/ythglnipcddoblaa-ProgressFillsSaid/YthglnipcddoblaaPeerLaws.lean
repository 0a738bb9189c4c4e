/- The laws on a peer, walked: ProgressWaits, ProgressFills. -/
import Derived.Test.YthglnipcddoblaaPeer5
import Derived.Test.YthglnipcddoblaaPeerMath2
namespace Go.Proofs.Ythglnipcddoblaa
open Go.RowKit Pg

theorem peer_new (w : World) (a b : Int) : PeerAt (w.alloc (.cells #[.int .i64 0, .int .i64 0, .int .i64 a, .int .i64 b, .bool false, .slice none 0 0, .int .i64 0] 42)) w.heap.size w.heap.size (Pg.fresh a b) :=
  ⟨Nat.le_refl _, .slice none 0 0, Blk.new w _ _, Sl.nil _ _ _ _⟩
theorem no_new {a b : Int} (h : ¬ NewOk a b) (w : World) : Calls Try.prog 7 #[.int .i64 a, .int .i64 b] w fun e w' => e = .returned (.tuple #[.pointer none, .int .i64 1]) ∧ w' = w := new_no a b h w
theorem inv_wst {m n : Nat} (h : n ≤ m) (h1 : 1 ≤ m) (hm : m ≤ 64) : Inv (wst m n) := by
  induction n with
  | zero =>
    rw [← wait0]
    exact inv_acked (inv_new (by omega) (by omega) (by omega) (by omega)) 0
  | succ n ih =>
    rw [← (wait1 (by omega) hm).2]
    exact inv_sent (ih (by omega)) _

set_option maxHeartbeats 1000000 in
theorem waits_walk (w : World) (a : Int) (_ : (Lit.int .i64 a).wf = true) : Calls Try.prog 4 #[.int .i64 a] w fun e w' => e = .returned (.bool true) ∧ Below w.heap.size w w' := by
  by_cases h : NewOk 1 a
  · obtain ⟨_, _, ha1, ha2⟩ := h
    obtain ⟨m, rfl⟩ := Int.eq_ofNat_of_zero_le (show 0 ≤ a by omega)
    have hok : NewOk 1 (m : Int) := ⟨by omega, by omega, ha1, ha2⟩
    have HOK := Lib.hid hok
    have hm1 : 1 ≤ m := by omega
    have hm2 : m ≤ 64 := by omega
    clear hok
    have HN := Lib.hid (peer_new w 1 (m : Int))
    go_enter Try.func4, Try.ntmps4
    go_wp2_with fail
    refine (new_ok _ _ HOK.out _).mono ?_
    rintro e w1 ⟨rfl, rfl⟩
    go_wp2_with fail
    refine (acked_any _ _ _ _ 0 (inv_new (by omega) (by omega) (by omega) (by omega)) HN.out).mono ?_
    rintro e w1 ⟨rfl, h1, b1⟩
    replace h1 : PeerAt w1 w.heap.size w.heap.size (wst m 0) := by rw [← wait0]; exact h1
    have b1' : Below w.heap.size w w1 := (((Below.refl _ w).alloc (Nat.le_refl _) _)).trans b1
    clear b1
    go_wp2_with fail
    go_loopw [5] (fun v wr => ∃ k : Nat, k ≤ m ∧ v = .int .i64 ((k : Int) + 1) ∧ PeerAt wr w.heap.size w.heap.size (wst m k) ∧ Below w.heap.size w wr) (fun v _ => (m + 1 - intOf v).toNat)
    case atStart => exact ⟨0, by omega, rfl, h1, b1'⟩
    case round =>
      obtain ⟨k, hk, rfl, hP, hb⟩ := hrel
      have HP := Lib.hid hP
      have HB := Lib.hid hb
      clear hP hb b1' h1
      have hsz : w.heap.size ≤ wr.heap.size := HB.out.size
      by_cases hkm : k < m
      · go_wp2_with fail
        refine (sent_any _ _ _ _ _ (inv_wst hk hm1 hm2) hsz HP.out).mono ?_
        rintro e w2 ⟨rfl, h2, b2⟩
        rw [(wait1 hkm hm2).1]
        rw [(wait1 hkm hm2).2] at h2
        have H2 := Lib.hid h2
        clear h2
        go_wp2_with fail
        refine (flying_any _ _ _ _ H2.out).mono ?_
        rintro e w3 ⟨rfl, rfl⟩
        rw [show (wst (m : Int) (k + 1)).fly.length = k + 1 from upto_length _]
        have d1 : ((((k + 1 : Nat) : Int)) != (k : Int) + 1) = false := by simp
        have d2 : ((k : Int) + 1 != (k : Int) + 1) = false := by simp
        go_wp2_with fail
        go_roundw
        case rel => exact ⟨k + 1, by omega, by go_num, H2.out, HB.out.trans b2⟩
        case measure => simp [intOf]; omega
      · obtain rfl : k = m := by omega
        go_wp2_with fail
        refine (sent_any _ _ _ _ _ (inv_wst (Nat.le_refl _) hm1 hm2) hsz HP.out).mono ?_
        rintro e w2 ⟨rfl, h2, b2⟩
        rw [(wait2 k).1]
        rw [(wait2 k).2] at h2
        have H2 := Lib.hid h2
        have B2 := Lib.hid (HB.out.trans b2)
        clear h2 b2
        go_wp2_with fail
        refine (acked_any _ _ _ _ 1 (inv_wst (Nat.le_refl _) hm1 hm2) H2.out).mono ?_
        rintro e w3 ⟨rfl, h3, b3⟩
        obtain ⟨l, hl, hll⟩ := wait3 hm1
        rw [hl] at h3
        have hi3 : Inv ⟨1, 1, (k : Int) + 1, k, false, l, 0⟩ := by rw [← hl]; exact inv_acked (inv_wst (Nat.le_refl _) hm1 hm2) 1
        have HI3 := Lib.hid hi3
        have HLL := Lib.hid hll
        have H3 := Lib.hid h3
        have B3 := Lib.hid (B2.out.trans b3)
        have hs3 := B3.out.size
        clear hl hll h3 hi3 b3
        go_wp2_with fail
        refine (sent_any _ _ _ _ _ HI3.out hs3 H3.out).mono ?_
        rintro e w4 ⟨rfl, h4, b4⟩
        rw [(wait4 hm1 hm2 HLL.out).1]
        have H4 := Lib.hid h4
        have B4 := Lib.hid (B3.out.trans b4)
        clear h4 b4
        go_wp2_with fail
        refine (flying_any _ _ _ _ H4.out).mono ?_
        rintro e w5 ⟨rfl, rfl⟩
        rw [(wait4 hm1 hm2 HLL.out).2]
        go_wp2_with fail
        go_ret
        exact ⟨by simp, B4.out⟩
  · have HNO := Lib.hid h
    clear h
    go_enter Try.func4, Try.ntmps4
    go_wp2_with fail
    refine (no_new HNO.out _).mono ?_
    rintro e w1 ⟨rfl, rfl⟩
    go_wp2_with fail
    go_ret
    exact ⟨by simp, Below.refl _ _⟩

theorem cell_below {w wr : World} {A : Option Addr} {zs : List Int} (h : Rd w w.heap.size A (zs.map (Value.int .i64))) (hb : Below w.heap.size w wr) {k : Nat} (hk : k < zs.length) : ∃ b o, A = some ⟨b, o, none⟩ ∧ wr.cell? ⟨b, o + k, none⟩ = some (.int .i64 zs[k]) := by
  obtain ⟨b, o, hA, _, hc⟩ := (h.below hb).at_ (k := k) (by simpa using hk)
  rw [List.getElem_map] at hc
  exact ⟨b, o, hA, hc⟩
set_option maxRecDepth 100000 in
set_option maxHeartbeats 1000000 in
theorem fills_walk (w : World) (a : Int) (_ : (Lit.int .i64 a).wf = true) (m : Int) (_ : (Lit.int .i64 m).wf = true) (A : Option Addr) (cap : Nat) (zs : List Int) (hl : IsInts .i64 w A cap zs) (hr : cap * 8 ≤ 140737488351232) :
    Calls Try.prog 5 #[.int .i64 a, .int .i64 m, .slice A zs.length cap] w fun e w' => e = .returned (.bool true) ∧ Below w.heap.size w w' := by
  by_cases h : NewOk a m
  · have HOK := Lib.hid h
    obtain ⟨ha1, ha2, hm1, hm2⟩ := h
    have HL : Hid (Rd w w.heap.size A (zs.map (Value.int .i64))) := Lib.hid hl.rd
    have hle := hl.le
    have hzl : zs.length ≤ 9223372036854775807 := by omega
    clear hl
    have HN := Lib.hid (peer_new w a m)
    go_enter Try.func5, Try.ntmps5
    go_wp2_with fail
    refine (new_ok _ _ HOK.out _).mono ?_
    rintro e w1 ⟨rfl, rfl⟩
    go_wp2_with fail
    refine (acked_any _ _ _ _ (a - 1) (inv_new ha1 ha2 hm1 hm2) HN.out).mono ?_
    rintro e w1 ⟨rfl, h1, b1⟩
    generalize ackedB _ _ = bb
    replace h1 : PeerAt w1 w.heap.size w.heap.size (fst_ (a - 1) m) := by rw [← fill0 ha1 ha2]; exact h1
    have b1' : Below w.heap.size w w1 := (((Below.refl _ w).alloc (Nat.le_refl _) _)).trans b1
    clear b1
    go_wp2_with fail
    go_loopw [9, 10] (fun v9 v10 wr => ∃ (k : Nat) (last : Int), k ≤ zs.length ∧ k ≤ 100 ∧ v9 = .int .i64 last ∧ v10 = .int .i64 (k : Int) ∧ 0 ≤ last ∧ last ≤ 1099511627775 ∧ PeerAt wr w.heap.size w.heap.size (fst_ last m) ∧ Below w.heap.size w wr) (fun _ v10 _ => (100 - intOf v10).toNat)
    case atStart => exact ⟨0, a - 1, by omega, by omega, rfl, rfl, by omega, by omega, h1, b1'⟩
    case round =>
      obtain ⟨k, last, hk, hk1, rfl, rfl, hl0, hl1, hP, hb⟩ := hrel
      have HP := Lib.hid hP
      have HB := Lib.hid hb
      clear hP hb b1' h1
      have hsz : w.heap.size ≤ wr.heap.size := HB.out.size
      by_cases hkl : k < zs.length ∧ k < 100
      · obtain ⟨hk2, hk3⟩ := hkl
        obtain ⟨b, o, rfl, hc⟩ := cell_below HL.out HB.out hk2
        generalize zs[k] = x at hc
        have hk0 : (0 : Int) ≤ k := by omega
        have hk2' : (k : Int) < zs.length := by omega
        have out0 : ∀ wr2 : World, PeerAt wr2 w.heap.size w.heap.size (fst_ last m) → Below w.heap.size w wr2 → True := fun _ _ _ => trivial
        clear out0
        by_cases g1 : x < 1
        · have d1 : decide (x < 1) = true := by simpa using g1
          go_wp2_with fail
          go_roundw
          case rel => exact ⟨k + 1, last, by omega, by omega, rfl, by go_num, hl0, hl1, HP.out, HB.out⟩
          case measure => simp [intOf]; omega
        have d1 : decide (x < 1) = false := by simpa using g1
        by_cases g2 : 1000 < x
        · have d2 : decide (1000 < x) = true := by simpa using g2
          go_wp2_with fail
          go_roundw
          case rel => exact ⟨k + 1, last, by omega, by omega, rfl, by go_num, hl0, hl1, HP.out, HB.out⟩
          case measure => simp [intOf]; omega
        have d2 : decide (1000 < x) = false := by simpa using g2
        by_cases g3 : 1099511625776 < last
        · have d3 : decide (1099511625776 < last) = true := by simpa using g3
          go_wp2_with fail
          go_roundw
          case rel => exact ⟨k + 1, last, by omega, by omega, rfl, by go_num, hl0, hl1, HP.out, HB.out⟩
          case measure => simp [intOf]; omega
        · have d3 : decide (1099511625776 < last) = false := by simpa using g3
          have hx1 : 1 ≤ x := by omega
          have hlx : last + x ≤ 1099511627775 := by omega
          go_wp2_with fail
          refine (sent_any _ _ _ _ _ (inv_fst hl0 hl1 hm1 hm2) hsz HP.out).mono ?_
          rintro e w2 ⟨rfl, h2, b2⟩
          rw [(fill1 hl0 hx1 hlx hm1).1]
          rw [(fill1 hl0 hx1 hlx hm1).2] at h2
          have hi2 : Inv ⟨1, last, last + x + 1, m, false, [last + x], 0⟩ := by
            rw [← (fill1 hl0 hx1 hlx hm1).2]; exact inv_sent (inv_fst hl0 hl1 hm1 hm2) _
          have HI2 := Lib.hid hi2
          have H2 := Lib.hid h2
          have B2 := Lib.hid (HB.out.trans b2)
          clear h2 b2 hi2
          go_wp2_with fail
          refine (acked_any _ _ _ _ _ HI2.out H2.out).mono ?_
          rintro e w3 ⟨rfl, h3, b3⟩
          rw [(fill2 hl0 hx1 hlx).2]
          rw [(fill2 hl0 hx1 hlx).1] at h3
          have H3 := Lib.hid h3
          have B3 := Lib.hid (B2.out.trans b3)
          clear h3 b3
          go_wp2_with fail
          refine (match_any _ _ _ _ H3.out).mono ?_
          rintro e w4 ⟨rfl, rfl⟩
          rw [show (fst_ (last + x) m).mat = last + x from rfl]
          have e1 : (last + x != last + x) = false := by simp
          go_wp2_with fail
          refine (next_any _ _ _ _ H3.out).mono ?_
          rintro e w4 ⟨rfl, rfl⟩
          rw [show (fst_ (last + x) m).next = last + x + 1 from rfl]
          have e2 : (last + x + 1 != last + x + 1) = false := by simp
          go_wp2_with fail
          refine (flying_any _ _ _ _ H3.out).mono ?_
          rintro e w4 ⟨rfl, rfl⟩
          rw [show (((fst_ (last + x) m).fly.length : Nat) : Int) = 0 from rfl]
          go_wp2_with fail
          refine (may_any _ _ _ _ (inv_fst (by omega) hlx hm1 hm2) H3.out).mono ?_
          rintro e w4 ⟨rfl, n, rfl⟩
          rw [may_fst hm1]
          have HK := Lib.hid (H3.out.keep (fresh_drawn _ n))
          have BK := Lib.hid (B3.out.trans (below_drawn _ _ n))
          go_wp2_with fail
          go_roundw
          case rel => exact ⟨k + 1, last + x, by omega, by omega, rfl, by go_num, by omega, hlx, HK.out, BK.out⟩
          case measure => simp [intOf]; omega
      · go_wp2_with fail
        all_goals
          refine (state_any _ _ _ _ HP.out).mono ?_
          rintro e w4 ⟨rfl, rfl⟩
          rw [show (fst_ last m).state = 1 from rfl]
          go_wp2_with fail
          refine (match_any _ _ _ _ HP.out).mono ?_
          rintro e w4 ⟨rfl, rfl⟩
          rw [show (fst_ last m).mat = last from rfl]
          go_wp2_with fail
          go_ret
          exact ⟨by simp, HB.out⟩
  · have HNO := Lib.hid h
    clear h
    go_enter Try.func5, Try.ntmps5
    go_wp2_with fail
    refine (no_new HNO.out _).mono ?_
    rintro e w1 ⟨rfl, rfl⟩
    go_wp2_with fail
    go_ret
    exact ⟨by simp, Below.refl _ _⟩
end Go.Proofs.Ythglnipcddoblaa

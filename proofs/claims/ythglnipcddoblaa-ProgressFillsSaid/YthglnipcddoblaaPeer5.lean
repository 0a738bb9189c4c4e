/- What the methods of a peer compute: Acked. -/
import Derived.Test.YthglnipcddoblaaPeer4
import Derived.Test.YthglnipcddoblaaShelf
namespace Go.Proofs.Ythglnipcddoblaa
open Go.RowKit Pg

theorem search_any (w : World) (B : Nat) (v : Value) (l : List Int) (i : Int) (hs : Sl w B 3 1 v l.length (l.map iv)) (hl : l.length ≤ 64) (hp : l.Pairwise (· ≤ ·)) :
    Calls Try.prog 20 #[v, .int .i64 i] w fun e w' => ∃ b n, e = .returned (.tuple #[.int .i64 ((l.countP (· < i) : Nat) : Int), .bool b]) ∧ w' = w.drewN n := by
  rcases hs.2 with ⟨rfl, h0⟩ | ⟨g, o, cap, cur, rfl, hB, hh, hn, hm, hsz, hc⟩
  · obtain rfl : l = [] := List.eq_nil_of_length_eq_zero h0
    clear hs hp h0
    go_enter Try.func20, Try.ntmps20
    go_wp2_with fail
    refine wp_loop_rounds 1 ?_
    rw [rounds_succ]
    go_wp2_with fail
    go_ret2
    exact ⟨false, 0, rfl, rfl⟩
  · refine (Go.Proofs.Try.slices_BinarySearch_int g o l.length cap l i w (Nat.le_refl _) (by omega) (fun j hj => ?_) (by rw [List.take_length]; exact hp)).mono ?_
    · rw [hs.cell (j := j) (by simpa using hj), List.getElem_map]
      simp [iv, List.getD, hj]
    · rintro e w' ⟨rfl, n, rfl⟩
      exact ⟨_, n, by rw [List.take_length], rfl⟩
theorem upd {w : World} {B g : Nat} {p : Pr} {v : Value} (hB : B ≤ g) (hb : Blk w g 42 (pcells p v)) (hs : Sl w B 3 1 v p.fly.length (p.fly.map iv)) (m n : Int) :
    PeerAt ((w.setCell ⟨g, 1, none⟩ (.int .i64 m)).setCell ⟨g, 2, none⟩ (.int .i64 n)).drew B g { p with mat := m, next := n } ∧ Below B w ((w.setCell ⟨g, 1, none⟩ (.int .i64 m)).setCell ⟨g, 2, none⟩ (.int .i64 n)).drew := by
  have F : Frm (fun k => k = g) w ((w.setCell ⟨g, 1, none⟩ (.int .i64 m)).setCell ⟨g, 2, none⟩ (.int .i64 n)).drew := (((Frm.refl (fun k => k = g) w).setCell (p := ⟨g, 1, none⟩) (fun _ => rfl) _).setCell (p := ⟨g, 2, none⟩) (fun _ => rfl) _).drew
  exact PeerAt.put (q := { p with mat := m, next := n }) hB hs hb F ((hb.set 1 _).set 2 _)
set_option maxHeartbeats 1000000 in
theorem acked_any (w : World) (B g : Nat) (p : Pr) (i : Int) (hi : Inv p) (h : PeerAt w B g p) :
    Calls Try.prog 9 #[.pointer (some ⟨g, 0, none⟩), .int .i64 i] w fun e w' => PeerPost w B g (acked p i) (.bool (ackedB p i)) e w' := by
  have H := Lib.hid h
  obtain ⟨hBg, v, hb, hs⟩ := h
  obtain ⟨A, cap, rfl, _⟩ := hs.shape
  have HB := Lib.hid hb
  have HS := Lib.hid hs
  have hc0 : w.cell? ⟨g, 0, none⟩ = some (.int .i64 p.state) := hb.cell 0
  have hc1 : w.cell? ⟨g, 1, none⟩ = some (.int .i64 p.mat) := hb.cell 1
  have hc2 : w.cell? ⟨g, 2, none⟩ = some (.int .i64 p.next) := hb.cell 2
  have hc4 : w.cell? ⟨g, 4, none⟩ = some (.bool p.waits) := hb.cell 4
  have hc5 : w.cell? ⟨g, 5, none⟩ = some (.slice A p.fly.length cap) := hb.cell 5
  have hc6 : w.cell? ⟨g, 6, none⟩ = some (.int .i64 p.snap) := hb.cell 6
  have hf : ∀ k, w.frozen? ⟨g, k, none⟩ = false := fun k => hb.frozen k
  have hst := hi.st
  have hw1 := hi.m0
  have hw2 := hi.mn
  have hw3 := hi.nm
  have HSO := Lib.hid hi.sorted
  have hl64 : p.fly.length ≤ 64 := by have := hi.len; have := hi.w2; omega
  clear hi hb hs
  by_cases h0 : i < 0
  · have HW := Lib.hid (show within i = false from by simp [within]; omega)
    go_enter Try.func9, Try.ntmps9
    go_wp2_with fail
    go_ret
    exact ⟨by rw [ackedB, HW.out]; rfl, by rw [acked, if_pos HW.out]; exact H.out, Below.refl _ _⟩
  by_cases h1 : 1099511627775 < i
  · have HW := Lib.hid (show within i = false from by simp [within]; omega)
    go_enter Try.func9, Try.ntmps9
    go_wp2_with fail
    go_ret
    exact ⟨by rw [ackedB, HW.out]; rfl, by rw [acked, if_pos HW.out]; exact H.out, Below.refl _ _⟩
  have HW := Lib.hid (show within i = true from by simp [within]; omega)
  have U := Lib.hid (upd hBg HB.out HS.out)
  have HR := Lib.hid (show ackedB p i = decide (p.mat < i) from by rw [ackedB, HW.out]; rfl)
  have hm0 : 0 ≤ max p.mat i := by omega
  have hm1 : max p.mat i ≤ 1099511627775 := by omega
  go_enter Try.func9, Try.ntmps9
  go_wp2_with fail
  generalize hw1 : w.setCell ⟨g, 1, none⟩ (.int .i64 (max p.mat i)) = w1
  have hb1 : Blk w1 g 42 (pcells { p with mat := max p.mat i } (.slice A p.fly.length cap)) := by rw [← hw1]; exact HB.out.set 1 _
  have hk0 : w1.cell? ⟨g, 0, none⟩ = some (.int .i64 p.state) := hb1.cell 0
  have hk1 : w1.cell? ⟨g, 1, none⟩ = some (.int .i64 (max p.mat i)) := hb1.cell 1
  have hk2 : w1.cell? ⟨g, 2, none⟩ = some (.int .i64 p.next) := hb1.cell 2
  have hk4 : w1.cell? ⟨g, 4, none⟩ = some (.bool p.waits) := hb1.cell 4
  have hk5 : w1.cell? ⟨g, 5, none⟩ = some (.slice A p.fly.length cap) := hb1.cell 5
  have hk6 : w1.cell? ⟨g, 6, none⟩ = some (.int .i64 p.snap) := hb1.cell 6
  have hkf : ∀ k, w1.frozen? ⟨g, k, none⟩ = false := fun k => hb1.frozen k
  have HW1 := Lib.hid hw1
  clear hw1 hb1 hc0 hc1 hc2 hc4 hc5 hc6 hf
  go_still_tail 11, (by kernel_rfl)
  show wpList _ _ _ _ _ (World.drew _)
  have HU : PeerAt (w1.setCell ⟨g, 2, none⟩ (.int .i64 (max p.next (max p.mat i + 1)))).drew B g (upTo p i) ∧ Below B w (w1.setCell ⟨g, 2, none⟩ (.int .i64 (max p.next (max p.mat i + 1)))).drew := by
    rw [← HW1.out]
    exact U.out _ _
  have HUP := Lib.hid HU.1
  have HUB := Lib.hid HU.2
  have HB2 : Hid (Blk (w1.setCell ⟨g, 2, none⟩ (.int .i64 (max p.next (max p.mat i + 1)))).drew g 42 (pcells (upTo p i) (.slice A p.fly.length cap))) := Lib.hid (by
    rw [← HW1.out]
    exact (HB.out.set 1 _).set 2 _)
  have HS2 : Hid (Sl (w1.setCell ⟨g, 2, none⟩ (.int .i64 (max p.next (max p.mat i + 1)))).drew B 3 1 (.slice A p.fly.length cap) p.fly.length (p.fly.map iv)) := Lib.hid (by
    rw [← HW1.out]
    exact HS.out.frm ((((Frm.refl (fun k => k = g) w).setCell (p := ⟨g, 1, none⟩) (fun _ => rfl) _).setCell (p := ⟨g, 2, none⟩) (fun _ => rfl) _).drew) (fun k hk e => HS.out.apart HB.out (by decide) (by rw [hk, e])))
  clear HU U
  rcases hst with e0 | e0 | e0
  · have E0 := Lib.hid e0
    rw [e0] at hk0
    clear e0
    go_wp2_with fail
    go_ret
    have F : Frm (fun k => k = g) (w1.setCell ⟨g, 2, none⟩ (.int .i64 (max p.next (max p.mat i + 1)))).drew ((((w1.setCell ⟨g, 2, none⟩ (.int .i64 (max p.next (max p.mat i + 1)))).setCell ⟨g, 0, none⟩ (.int .i64 1)).setCell ⟨g, 4, none⟩ (.bool false)).setCell ⟨g, 5, none⟩ (.slice none 0 0)).drew :=
      ((((Frm.refl (fun k => k = g) (w1.setCell ⟨g, 2, none⟩ (.int .i64 (max p.next (max p.mat i + 1)))).drew).setCell (p := ⟨g, 0, none⟩) (fun _ => rfl) _).setCell (p := ⟨g, 4, none⟩) (fun _ => rfl) _).setCell (p := ⟨g, 5, none⟩) (fun _ => rfl) _)
    have hb3 := ((HB2.out.set 0 (.int .i64 1)).set 4 (.bool false)).set 5 (.slice none 0 0)
    have := PeerAt.put (q := { upTo p i with state := 1, waits := false, fly := [] }) hBg (Sl.nil _ _ _ _) HB2.out F hb3
    exact ⟨by rw [HR.out]; rfl, by rw [acked, if_neg (by rw [HW.out]; simp), if_pos E0.out]; exact this.1, HUB.out.trans this.2⟩
  · have E0 := Lib.hid e0
    rw [e0] at hk0
    clear e0
    go_wp2_with fail
    refine (search_any _ B _ p.fly _ HS2.out hl64 (HSO.out.imp fun h => Int.le_of_lt h)).mono ?_
    rintro e w2 ⟨b, n, rfl, rfl⟩
    have HK : Hid (PeerAt ((w1.setCell ⟨g, 2, none⟩ (.int .i64 (max p.next (max p.mat i + 1)))).drewN (1 + n)) B g (upTo p i) ∧ Below B w ((w1.setCell ⟨g, 2, none⟩ (.int .i64 (max p.next (max p.mat i + 1)))).drewN (1 + n))) := Lib.hid (by
      have a := HUP.out.keep (fresh_drawn _ n)
      have b := HUB.out.trans (below_drawn B _ n)
      rw [show (w1.setCell ⟨g, 2, none⟩ (.int .i64 (max p.next (max p.mat i + 1)))).drew.drewN n = (w1.setCell ⟨g, 2, none⟩ (.int .i64 (max p.next (max p.mat i + 1)))).drewN (1 + n) from drewN_add _ 1 n] at a b
      exact ⟨a, b⟩)
    have hcnt : p.fly.countP (fun x => x < i + 1) ≤ p.fly.length := List.countP_le_length
    go_wp2_with fail
    refine (land_any _ B g (upTo p i) _ hcnt (show p.fly.length ≤ 100 by omega) HK.out.1).mono ?_
    rintro e w3 ⟨rfl, h3, hb3⟩
    have H3 := Lib.hid h3
    clear h3
    go_wp2_with fail
    go_ret
    exact ⟨by rw [HR.out]; rfl, by rw [acked, if_neg (by rw [HW.out]; simp), if_neg (by rw [E0.out]; decide), if_pos E0.out]; exact H3.out, HK.out.2.trans hb3⟩
  · have E0 := Lib.hid e0
    rw [e0] at hk0
    clear e0
    by_cases g1 : p.snap ≤ i
    · have G1 := Lib.hid g1
      have d1 : decide (p.snap ≤ i) = true := by simpa using g1
      go_wp2_with fail
      refine (probe_any _ B g (upTo p i) _ HUP.out).mono ?_
      rintro e w3 ⟨rfl, h3, hb3⟩
      have H3 := Lib.hid h3
      clear h3
      go_wp2_with fail
      go_ret
      exact ⟨by rw [HR.out]; rfl, by rw [acked, if_neg (by rw [HW.out]; simp), if_neg (by rw [E0.out]; decide), if_neg (by rw [E0.out]; decide), if_pos G1.out]; exact H3.out, HUB.out.trans hb3⟩
    · have d1 : decide (p.snap ≤ i) = false := by simpa using g1
      have G1 := Lib.hid (show ¬ p.snap ≤ i from g1)
      go_wp2_with fail
      go_ret
      exact ⟨by rw [HR.out]; rfl, by rw [acked, if_neg (by rw [HW.out]; simp), if_neg (by rw [E0.out]; decide), if_neg (by rw [E0.out]; decide), if_neg (by have := G1.out; omega)]; exact HUP.out, HUB.out⟩
end Go.Proofs.Ythglnipcddoblaa

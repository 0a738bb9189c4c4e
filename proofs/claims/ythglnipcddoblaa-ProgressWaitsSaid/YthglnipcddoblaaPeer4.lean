/- What the methods of a peer compute: Over, Refused. -/
import Derived.Test.YthglnipcddoblaaPeer3
namespace Go.Proofs.Ythglnipcddoblaa
open Go.RowKit Pg

set_option maxHeartbeats 800000 in
theorem over_any (w : World) (B g : Nat) (p : Pr) (ok : Bool) (hi : Inv p) (h : PeerAt w B g p) :
    Calls Try.prog 19 #[.pointer (some ⟨g, 0, none⟩), .bool ok] w fun e w' => PeerPost w B g (over p ok) (.bool (overB p)) e w' := by
  have H := Lib.hid h
  obtain ⟨hBg, v, hb, hs⟩ := h
  have hst := hi.st
  have hw1 := hi.m0
  have hw2 := hi.mn
  have hw3 := hi.nm
  have hw4 := hi.s0
  have hw5 := hi.sm
  clear hi
  by_cases h2 : p.state = 2
  · have hc0 : w.cell? ⟨g, 0, none⟩ = some (.int .i64 2) := by rw [← h2]; exact hb.cell 0
    have hc1 : w.cell? ⟨g, 1, none⟩ = some (.int .i64 p.mat) := hb.cell 1
    have hc6 : w.cell? ⟨g, 6, none⟩ = some (.int .i64 p.snap) := hb.cell 6
    have H2 := Lib.hid h2
    clear hs hb h2 hst
    cases ok
    · go_enter Try.func19, Try.ntmps19
      go_wp2_with fail
      refine (probe_any _ B g p _ H.out).mono ?_
      rintro e w2 ⟨rfl, h3, hb3⟩
      have H3 := Lib.hid h3
      clear h3
      go_wp2_with fail
      go_ret
      exact ⟨by rw [overB, H2.out]; rfl, by rw [over, if_pos H2.out]; exact H3.out, hb3⟩
    · have hmx : max (p.mat + 1) (p.snap + 1) ≤ 1099511627776 := by omega
      go_enter Try.func19, Try.ntmps19
      go_wp2_with fail
      all_goals
        refine (probe_any _ B g p _ H.out).mono ?_
        rintro e w2 ⟨rfl, h3, hb3⟩
        have H3 := Lib.hid h3
        clear h3
        go_wp2_with fail
        go_ret
        refine ⟨by rw [overB, H2.out]; rfl, ?_, hb3⟩
        rw [over, if_pos H2.out, if_pos rfl]
        first
        | (rw [show max (p.mat + 1) (p.snap + 1) = p.snap + 1 from by omega]; exact H3.out)
        | (rw [show max (p.mat + 1) (p.snap + 1) = p.mat + 1 from by omega]; exact H3.out)
  · have hc0 : w.cell? ⟨g, 0, none⟩ = some (.int .i64 p.state) := hb.cell 0
    have hne : (p.state != 2) = true := by rw [bne_iff_ne]; exact h2
    have H2 := Lib.hid h2
    clear hs hb h2 hst
    go_enter Try.func19, Try.ntmps19
    go_wp2_with fail
    go_ret
    exact ⟨by rw [overB, decide_eq_false H2.out]; rfl, by rw [over, if_neg H2.out]; exact H.out, Below.refl _ _⟩
set_option maxHeartbeats 1000000 in
theorem refused_any (w : World) (B g : Nat) (p : Pr) (i x : Int) (hi : Inv p) (h : PeerAt w B g p) :
    Calls Try.prog 16 #[.pointer (some ⟨g, 0, none⟩), .int .i64 i, .int .i64 x] w fun e w' => PeerPost w B g (refused p i x) (.bool (refusedB p i)) e w' := by
  have H := Lib.hid h
  obtain ⟨hBg, v, hb, hs⟩ := h
  have hst := hi.st
  have hw1 := hi.m0
  have hw2 := hi.mn
  have hw3 := hi.nm
  clear hi
  have hc1 : w.cell? ⟨g, 1, none⟩ = some (.int .i64 p.mat) := hb.cell 1
  have hc2 : w.cell? ⟨g, 2, none⟩ = some (.int .i64 p.next) := hb.cell 2
  obtain ⟨y, hy, hyr⟩ : ∃ y, y = hintOf x ∧ (0 ≤ y ∧ y ≤ 1099511627776) := ⟨_, rfl, hintOf_bd x⟩
  have hy0 := hyr.1
  have hy1 := hyr.2
  have HY := Lib.hid hy
  clear hyr hy hs
  have go0 : ∀ y : Int, y = hintOf x → p.state = 0 → i = p.next - 1 → ∀ z, (z = max (min i (y + 1)) (p.mat + 1)) → ∀ n w2, PeerAt w2 B g (probe p z) → Below B (w.drewN n) w2 → PeerPost w B g (refused p i x) (.bool (refusedB p i)) (.returned (.bool true)) w2 := by
    intro y hy h0 h1 z hz n w2 a b
    subst hz
    refine ⟨by rw [refusedB, decide_eq_true (.inl ⟨h0, h1⟩)], ?_, (below_drawn B w n).trans b⟩
    rw [refused, if_pos ⟨h0, h1⟩, ← hy]
    exact a
  have GO := Lib.hid go0
  clear go0
  have no0 : ¬ (p.state = 0 ∧ i = p.next - 1) → ¬ (p.state = 1 ∧ p.mat < i) → ∀ n, PeerPost w B g (refused p i x) (.bool (refusedB p i)) (.returned (.bool false)) (w.drewN n) := by
    intro h1 h2 n
    refine ⟨by rw [refusedB, decide_eq_false (by rintro (h | h); exact h1 h; exact h2 h)], ?_, below_drawn B w n⟩
    rw [refused, if_neg h1, if_neg h2]
    exact H.out.keep (fresh_drawn w n)
  have NO := Lib.hid no0
  clear no0
  rcases hst with h0 | h0 | h0
  · have H0 := Lib.hid h0
    have hc0 : w.cell? ⟨g, 0, none⟩ = some (.int .i64 0) := by rw [← h0]; exact hb.cell 0
    clear hb h0
    by_cases g1 : i = p.next - 1
    · have G1 := Lib.hid g1
      have d1 : (i == p.next - 1) = true := by simpa using g1
      have hi0 : 0 ≤ i := by omega
      clear g1
      go_enter Try.func16, Try.ntmps16
      go_wp2_with fail
      all_goals
        refine (probe_any _ B g p _ H.out).mono ?_
        rintro e w2 ⟨rfl, h3, hb3⟩
        have H3 := Lib.hid h3
        clear h3
        go_wp2_with fail
        go_ret
        exact GO.out (hintOf x) rfl H0.out G1.out _ (by have := G1.out; unfold hintOf; split <;> omega) 0 w2 H3.out hb3
    · have d1 : (i == p.next - 1) = false := by simpa using g1
      have G1 := Lib.hid g1
      clear g1
      go_enter Try.func16, Try.ntmps16
      go_wp2_with fail
      all_goals
        go_ret
        exact NO.out (fun h => G1.out h.2) (fun h => by have := h.1; rw [H0.out] at this; cases this) 0
  · have H0 := Lib.hid h0
    have hc0 : w.cell? ⟨g, 0, none⟩ = some (.int .i64 1) := by rw [← h0]; exact hb.cell 0
    clear hb h0
    have NZ := Lib.hid (show ¬ (p.state = 0 ∧ i = p.next - 1) from fun h => by have := h.1; rw [H0.out] at this; cases this)
    by_cases g1 : p.mat < i
    · have G1 := Lib.hid g1
      have d1 : decide (p.mat < i) = true := by simpa using g1
      have HR := Lib.hid (show refusedB p i = true from by rw [refusedB]; exact decide_eq_true (Or.inr ⟨H0.out, g1⟩))
      go_enter Try.func16, Try.ntmps16
      go_wp2_with fail
      all_goals
        refine (probe_any _ B g p _ H.out).mono ?_
        rintro e w2 ⟨rfl, h3, hb3⟩
        have H3 := Lib.hid h3
        clear h3
        go_wp2_with fail
        go_ret
        exact ⟨by rw [HR.out]; rfl, by rw [refused, if_neg NZ.out, if_pos ⟨H0.out, G1.out⟩]; exact H3.out, hb3⟩
    · have G1 := Lib.hid (show ¬ (p.state = 1 ∧ p.mat < i) from fun h => g1 h.2)
      have d1 : decide (p.mat < i) = false := by simpa using g1
      go_enter Try.func16, Try.ntmps16
      go_wp2_with fail
      all_goals
        go_ret
        exact NO.out NZ.out G1.out 0
  · have H0 := Lib.hid h0
    have hc0 : w.cell? ⟨g, 0, none⟩ = some (.int .i64 2) := by rw [← h0]; exact hb.cell 0
    clear hb h0
    go_enter Try.func16, Try.ntmps16
    go_wp2_with fail
    all_goals
      go_ret
      exact NO.out (fun h => by have := h.1; rw [H0.out] at this; cases this) (fun h => by have := h.1; rw [H0.out] at this; cases this) 0
end Go.Proofs.Ythglnipcddoblaa

/- What the methods of a peer compute: probe, land, Install, Beat, Over, Refused. -/
import Derived.Test.YthglnipcddoblaaPeer2
import Derived.StillTailTactics
namespace Go.Proofs.Ythglnipcddoblaa
open Go.RowKit Pg

theorem prb {p : Pr} {v : Value} {w : World} {B g : Nat} (n : Int) (hB : B ≤ g) (hb : Blk w g 42 (pcells p v)) :
    PeerAt ((((w.setCell ⟨g, 0, none⟩ (.int .i64 0)).setCell ⟨g, 2, none⟩ (.int .i64 n)).setCell ⟨g, 4, none⟩ (.bool false)).setCell ⟨g, 5, none⟩ (.slice none 0 0)) B g (probe p n) ∧
    Below B w ((((w.setCell ⟨g, 0, none⟩ (.int .i64 0)).setCell ⟨g, 2, none⟩ (.int .i64 n)).setCell ⟨g, 4, none⟩ (.bool false)).setCell ⟨g, 5, none⟩ (.slice none 0 0)) := by
  refine ⟨⟨hB, .slice none 0 0, ?_, Sl.nil _ _ _ _⟩, Frm.below (S := fun k => k = g) (((((Frm.refl (fun k => k = g) w).setCell (p := ⟨g, _, none⟩) (fun _ => rfl) _).setCell (p := ⟨g, _, none⟩) (fun _ => rfl) _).setCell (p := ⟨g, _, none⟩) (fun _ => rfl) _).setCell (p := ⟨g, _, none⟩) (fun _ => rfl) _) (by have := hb.lt; omega) (fun k hk e => by omega)⟩
  exact (((hb.set 0 _).set 2 _).set 4 _).set 5 _
theorem ins {p : Pr} {v : Value} {w : World} {B g : Nat} (n : Int) (hB : B ≤ g) (hb : Blk w g 42 (pcells p v)) :
    PeerAt ((((w.setCell ⟨g, 0, none⟩ (.int .i64 2)).setCell ⟨g, 6, none⟩ (.int .i64 n)).setCell ⟨g, 4, none⟩ (.bool false)).setCell ⟨g, 5, none⟩ (.slice none 0 0)) B g { p with state := 2, snap := n, waits := false, fly := [] } ∧
    Below B w ((((w.setCell ⟨g, 0, none⟩ (.int .i64 2)).setCell ⟨g, 6, none⟩ (.int .i64 n)).setCell ⟨g, 4, none⟩ (.bool false)).setCell ⟨g, 5, none⟩ (.slice none 0 0)) := by
  refine ⟨⟨hB, .slice none 0 0, ?_, Sl.nil _ _ _ _⟩, Frm.below (S := fun k => k = g) (((((Frm.refl (fun k => k = g) w).setCell (p := ⟨g, _, none⟩) (fun _ => rfl) _).setCell (p := ⟨g, _, none⟩) (fun _ => rfl) _).setCell (p := ⟨g, _, none⟩) (fun _ => rfl) _).setCell (p := ⟨g, _, none⟩) (fun _ => rfl) _) (by have := hb.lt; omega) (fun k hk e => by omega)⟩
  exact (((hb.set 0 _).set 6 _).set 4 _).set 5 _

theorem probe_any (w : World) (B g : Nat) (p : Pr) (n : Int) (h : PeerAt w B g p) :
    Calls Try.prog 22 #[.pointer (some ⟨g, 0, none⟩), .int .i64 n] w fun e w' => PeerPost w B g (probe p n) (.bool true) e w' := by
  obtain ⟨hBg, v, hb, hs⟩ := h
  obtain ⟨A, cap, rfl, _⟩ := hs.shape
  have HB := Lib.hid hb
  have hc0 : w.cell? ⟨g, 0, none⟩ = some (.int .i64 p.state) := hb.cell 0
  have hc2 : w.cell? ⟨g, 2, none⟩ = some (.int .i64 p.next) := hb.cell 2
  have hc4 : w.cell? ⟨g, 4, none⟩ = some (.bool p.waits) := hb.cell 4
  have hc5 : w.cell? ⟨g, 5, none⟩ = some (.slice A p.fly.length cap) := hb.cell 5
  have hf : ∀ k, w.frozen? ⟨g, k, none⟩ = false := fun k => hb.frozen k
  clear hs hb
  go_enter Try.func22, Try.ntmps22
  go_wp2_with fail
  go_ret
  exact ⟨rfl, (prb n hBg HB.out).1, (prb n hBg HB.out).2⟩
theorem install_any (w : World) (B g : Nat) (p : Pr) (n : Int) (h : PeerAt w B g p) :
    Calls Try.prog 18 #[.pointer (some ⟨g, 0, none⟩), .int .i64 n] w fun e w' => PeerPost w B g (install p n) (.int .i64 (installE n)) e w' := by
  have H := Lib.hid h
  obtain ⟨hBg, v, hb, hs⟩ := h
  obtain ⟨A, cap, rfl, _⟩ := hs.shape
  have HB := Lib.hid hb
  have hc0 : w.cell? ⟨g, 0, none⟩ = some (.int .i64 p.state) := hb.cell 0
  have hc6 : w.cell? ⟨g, 6, none⟩ = some (.int .i64 p.snap) := hb.cell 6
  have hc4 : w.cell? ⟨g, 4, none⟩ = some (.bool p.waits) := hb.cell 4
  have hc5 : w.cell? ⟨g, 5, none⟩ = some (.slice A p.fly.length cap) := hb.cell 5
  have hf : ∀ k, w.frozen? ⟨g, k, none⟩ = false := fun k => hb.frozen k
  clear hs hb
  by_cases h0 : n < 0
  · have HW := Lib.hid (show within n = false from by simp [within]; omega)
    go_enter Try.func18, Try.ntmps18
    go_wp2_with fail
    go_ret
    exact ⟨by rw [installE, if_pos HW.out]; rfl, by rw [install, if_pos HW.out]; exact H.out, Below.refl _ _⟩
  by_cases h1 : 1099511627775 < n
  · have HW := Lib.hid (show within n = false from by simp [within]; omega)
    go_enter Try.func18, Try.ntmps18
    go_wp2_with fail
    go_ret
    exact ⟨by rw [installE, if_pos HW.out]; rfl, by rw [install, if_pos HW.out]; exact H.out, Below.refl _ _⟩
  · have HW := Lib.hid (show within n = true from by simp [within]; omega)
    go_enter Try.func18, Try.ntmps18
    go_wp2_with fail
    go_ret
    have k := ins n hBg HB.out
    exact ⟨by rw [installE, HW.out]; rfl, by rw [install, HW.out]; exact k.1, k.2⟩

theorem Sl.rest {w : World} {B : Nat} {e : TypeId} {A : Option Addr} {m cap n : Nat} {xs : List Value} (h : Sl w B e 1 (.slice A m cap) m xs) (hn : n ≤ m) :
    Sl w B e 1 (.slice (if m = n then A else A.map (fun x => x.add n)) (m - n) (m - n)) (m - n) (xs.drop n) := by
  by_cases hmn : m = n
  · subst hmn
    rw [if_pos rfl, Nat.sub_self, List.drop_of_length_le (by have := h.1; omega)]
    rcases h.2 with ⟨hv, _⟩ | ⟨g', o', cap', cur, hv, hb, hh, hn', hm, hs, hcell⟩
    · injection hv with hA _ _
      subst hA
      exact Sl.nil _ _ _ _
    · injection hv with hA _ _
      subst hA
      exact ⟨rfl, .inr ⟨g', o', 0, cur, rfl, hb, hh, Nat.le_refl _, by simp, by omega, fun j u hu => by simp at hu⟩⟩
  · rw [if_neg hmn]
    have hm : n < m := by omega
    obtain ⟨g', o', cap', hv, _⟩ := h.head (by omega)
    injection hv with hA _ hc
    subst hA hc
    have hc := (h.shape)
    obtain ⟨_, _, hv2, h1, _⟩ := hc
    injection hv2 with _ _ hc2
    have := h.cut3 (k := n) (l := m) (c := m) (by omega) (Nat.le_refl _) (Nat.le_refl _) (by omega)
    rw [List.take_of_length_le (by have := h.1; omega)] at this
    simpa [Addr.add_lit] using this
def LandPost (w : World) (B g : Nat) (q : Pr) (e : Ending) (w' : World) : Prop := e = .returned (.tuple #[]) ∧ PeerAt w' B g q ∧ Below B w w'
set_option maxHeartbeats 400000 in
theorem land_any (w : World) (B g : Nat) (p : Pr) (n : Nat) (hn : n ≤ p.fly.length) (hl : p.fly.length ≤ 100) (h : PeerAt w B g p) :
    Calls Try.prog 21 #[.pointer (some ⟨g, 0, none⟩), .int .i64 (n : Int)] w fun e w' => LandPost w B g { p with fly := p.fly.drop n } e w' := by
  obtain ⟨hBg, v, hb, hs⟩ := h
  obtain ⟨A, cap, rfl, hc1, hc2, _⟩ := hs.shape
  have HB := Lib.hid hb
  have HS := Lib.hid hs
  have hc5 : w.cell? ⟨g, 5, none⟩ = some (.slice A p.fly.length cap) := hb.cell 5
  have hf : w.frozen? ⟨g, 5, none⟩ = false := hb.frozen 5
  have hn0 : (0 : Int) ≤ n := by omega
  have hn1 : (n : Int) ≤ p.fly.length := by omega
  unfold maxLen at hc2
  clear hs hb
  go_enter Try.func21, Try.ntmps21
  go_still_tail 17, (by kernel_rfl)
  show wpList _ _ _ _ _ w.drew
  generalize hv : Value.slice (if p.fly.length = n then A else Option.map (fun x => x.add n) A) (p.fly.length - n) (p.fly.length - n) = v
  obtain ⟨A2, c2, hv2⟩ : ∃ A2 c2, v = .slice A2 (p.fly.length - n) c2 := ⟨_, _, hv.symm⟩
  subst hv2
  have hs2 := HS.out.rest hn
  rw [hv] at hs2
  have HS2 := Lib.hid hs2
  clear hv hs2
  go_wp2_with fail
  go_end0
  have F : Frm (fun k => k = g) w (w.drew.setCell ⟨g, 5, none⟩ (.slice A2 (p.fly.length - n) c2)) := ((Frm.refl (fun k => k = g) w).drew).setCell (p := ⟨g, 5, none⟩) (fun _ => rfl) _
  refine ⟨rfl, ⟨hBg, _, pset5 (p := p) rfl HB.out, ?_⟩, F.below (by have := HB.out.lt; omega) (fun k hk e => by omega)⟩
  rw [List.length_drop, List.map_drop]
  exact HS2.out.frm F (fun k hk e => HS2.out.apart HB.out (by decide) (by rw [hk, e]))

set_option maxHeartbeats 400000 in
theorem beat_any (w : World) (B g : Nat) (p : Pr) (hi : Inv p) (h : PeerAt w B g p) :
    Calls Try.prog 17 #[.pointer (some ⟨g, 0, none⟩)] w fun e w' => LandPost w B g (beat p) e w' := by
  have H := Lib.hid h
  obtain ⟨hBg, v, hb, hs⟩ := h
  obtain ⟨A, cap, rfl, hc1, hc2, _⟩ := hs.shape
  have HB := Lib.hid hb
  have HS := Lib.hid hs
  have hst := hi.st
  have hw1 := hi.w1
  have hw2 := hi.w2
  have hln := hi.len
  clear hi
  rcases hst with h0 | h0 | h0
  · have hc0 : w.cell? ⟨g, 0, none⟩ = some (.int .i64 0) := by rw [← h0]; exact hb.cell 0
    have hc4 : w.cell? ⟨g, 4, none⟩ = some (.bool p.waits) := hb.cell 4
    have hf : w.frozen? ⟨g, 4, none⟩ = false := hb.frozen 4
    have H0 := Lib.hid h0
    clear hs hb h0
    go_enter Try.func17, Try.ntmps17
    go_wp2_with fail
    go_end0
    have hb' := pset (p := p) (q := { p with waits := false }) 4 (.bool false) rfl HB.out
    have F := (Frm.refl (fun k => k = g) w).setCell (p := ⟨g, 4, none⟩) (fun _ => rfl) (.bool false)
    have := PeerAt.put (q := { p with waits := false }) hBg HS.out HB.out F hb'
    exact ⟨rfl, by rw [beat, if_pos H0.out]; exact this.1, this.2⟩
  · have hc0 : w.cell? ⟨g, 0, none⟩ = some (.int .i64 1) := by rw [← h0]; exact hb.cell 0
    have hc3 : w.cell? ⟨g, 3, none⟩ = some (.int .i64 p.window) := hb.cell 3
    have hc5 : w.cell? ⟨g, 5, none⟩ = some (.slice A p.fly.length cap) := hb.cell 5
    have H0 := Lib.hid h0
    clear hs hb h0
    by_cases g1 : p.window ≤ p.fly.length
    · have G1 := Lib.hid g1
      have d1 : decide (p.window ≤ (p.fly.length : Int)) = true := by simpa using g1
      have hl0 : 1 ≤ p.fly.length := by omega
      go_enter Try.func17, Try.ntmps17
      go_wp2_with fail
      go_quiet (fail)
      go_wp2_with fail
      refine (land_any _ B g p 1 hl0 (by omega) (H.out.keep (fresh_drawn w nq))).mono ?_
      rintro e w2 ⟨rfl, h2, hb2⟩
      go_wp2_with fail
      go_end0
      exact ⟨rfl, by rw [beat, if_neg (by rw [H0.out]; decide), if_pos ⟨H0.out, G1.out⟩]; exact h2, (below_drawn B w nq).trans hb2⟩
    · have G1 := Lib.hid g1
      have d1 : decide (p.window ≤ (p.fly.length : Int)) = false := by simpa using g1
      go_enter Try.func17, Try.ntmps17
      go_wp2_with fail
      go_quiet (fail)
      go_wp2_with fail
      go_end0
      exact ⟨rfl, by rw [beat, if_neg (by rw [H0.out]; decide), if_neg (fun h => by have h2 := h.2; have := G1.out; omega)]; exact H.out.keep (fresh_drawn w nq), below_drawn B w nq⟩
  · have hc0 : w.cell? ⟨g, 0, none⟩ = some (.int .i64 2) := by rw [← h0]; exact hb.cell 0
    have H0 := Lib.hid h0
    clear hs hb h0
    go_enter Try.func17, Try.ntmps17
    go_wp2_with fail
    go_quiet (fail)
    go_wp2_with fail
    go_end0
    exact ⟨rfl, by rw [beat, if_neg (by rw [H0.out]; decide), if_neg (fun h => by have := h.1; rw [H0.out] at this; cases this)]; exact H.out.keep (fresh_drawn w nq), below_drawn B w nq⟩
end Go.Proofs.Ythglnipcddoblaa

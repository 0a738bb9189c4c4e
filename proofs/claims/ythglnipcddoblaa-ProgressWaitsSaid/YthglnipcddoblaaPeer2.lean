/- What the methods of a peer compute: Sent, probe, land. -/
import Derived.Test.YthglnipcddoblaaPeer
import Derived.Deep.RegionHeld3
import Derived.RegionTactic
import Derived.ChangeAlike
namespace Go.Proofs.Ythglnipcddoblaa
open Go.RowKit Pg

theorem drewN_add (w : World) (k n : Nat) : (w.drewN k).drewN n = w.drewN (k + n) := by simp [World.drewN, Nat.add_assoc]
theorem fresh_drawn (w : World) (n : Nat) : Fresh w (w.drewN n) := (Frm.refl _ w).drewN n
theorem below_drawn (B : Nat) (w : World) (n : Nat) : Below B w (w.drewN n) := ⟨rfl, rfl, rfl, Nat.le_refl _, fun _ _ => rfl⟩
theorem pset {p q : Pr} {v : Value} (i : Nat) (u : Value) (h : (pcells p v).setIfInBounds i u = pcells q v) {w : World} {g : Nat} (hb : Blk w g 42 (pcells p v)) : Blk (w.setCell ⟨g, i, none⟩ u) g 42 (pcells q v) := by
  have := hb.set i u
  rwa [h] at this
theorem pset5 {p q : Pr} {v v' : Value} (h : (pcells p v).setIfInBounds 5 v' = pcells q v') {w : World} {g : Nat} (hb : Blk w g 42 (pcells p v)) : Blk (w.setCell ⟨g, 5, none⟩ v') g 42 (pcells q v') := by
  have := hb.set 5 v'
  rwa [h] at this

set_option maxHeartbeats 800000 in
theorem sent_any (w : World) (B g : Nat) (p : Pr) (last : Int) (hi : Inv p) (hB : B ≤ w.heap.size) (h : PeerAt w B g p) :
    Calls Try.prog 10 #[.pointer (some ⟨g, 0, none⟩), .int .i64 last] w fun e w' => PeerPost w B g (sent p last) (.int .i64 (sentE p last)) e w' := by
  have H := Lib.hid h
  have HI := Lib.hid hi
  obtain ⟨hBg, v, hb, hs⟩ := h
  obtain ⟨A, cap, rfl, hcap1, hcap2, _⟩ := hs.shape
  obtain ⟨i0, hif, hz0, hz1, hz2⟩ := info_parts info_int
  have HB := Lib.hid hb
  have HS := Lib.hid hs
  have hc0 : ∀ n, (w.drewN n).cell? ⟨g, 0, none⟩ = some (.int .i64 p.state) := fun _ => hb.cell 0
  have hc2 : ∀ n, (w.drewN n).cell? ⟨g, 2, none⟩ = some (.int .i64 p.next) := fun _ => hb.cell 2
  have hc4 : ∀ n, (w.drewN n).cell? ⟨g, 4, none⟩ = some (.bool p.waits) := fun _ => hb.cell 4
  have hc5 : ∀ n, (w.drewN n).cell? ⟨g, 5, none⟩ = some (.slice A p.fly.length cap) := fun _ => hb.cell 5
  have hf : ∀ n k, (w.drewN n).frozen? ⟨g, k, none⟩ = false := fun _ k => hb.frozen k
  have hap := hs.apart hb (by decide)
  have hlt := hs.lt
  have hgl := hb.lt
  have hn1 := hi.m0
  have hn2 := hi.mn
  have hn3 := hi.nm
  have hst := hi.st
  have hwn := hi.w2
  have hln := hi.len
  clear hs hb hi
  go_enter Try.func10, Try.ntmps10
  go_wp2_with fail
  refine (may_any w B g p HI.out H.out).mono ?_
  rintro e w1 ⟨rfl, n, rfl⟩
  cases hm : may p
  · have hok : sentOk p last = false := by unfold sentOk; rw [hm]; rfl
    have HOK := Lib.hid hok
    clear hok
    go_wp2_with fail
    go_ret
    exact ⟨by rw [sentE, if_pos HOK.out]; rfl, by rw [sent, if_pos HOK.out]; exact H.out.keep (fresh_drawn w n), below_drawn B w n⟩
  by_cases g1 : last < p.next - 1
  · have hok : sentOk p last = false := by unfold sentOk; rw [hm]; simp; omega
    have HOK := Lib.hid hok
    clear hok
    go_wp2_with fail
    go_ret
    exact ⟨by rw [sentE, if_pos HOK.out]; rfl, by rw [sent, if_pos HOK.out]; exact H.out.keep (fresh_drawn w n), below_drawn B w n⟩
  by_cases g2 : 1099511627775 < last
  · have hok : sentOk p last = false := by unfold sentOk; rw [hm]; simp; omega
    have HOK := Lib.hid hok
    clear hok
    go_wp2_with fail
    go_ret
    exact ⟨by rw [sentE, if_pos HOK.out]; rfl, by rw [sent, if_pos HOK.out]; exact H.out.keep (fresh_drawn w n), below_drawn B w n⟩
  have hok : sentOk p last = true := by unfold sentOk; rw [hm]; simp; omega
  have HOK := Lib.hid hok
  have HM := Lib.hid hm
  clear hok hm
  by_cases h0 : p.state = 0
  · have hc0' : ∀ n, (w.drewN n).cell? ⟨g, 0, none⟩ = some (.int .i64 0) := by rw [← h0]; exact hc0
    have H0 := Lib.hid h0
    clear h0 hc0 hst
    go_wp2_with fail
    go_ret
    have hb' := pset (p := p) (q := { p with waits := true }) 4 (.bool true) rfl HB.out
    have F := frm_set (fresh_drawn w n) (fun _ _ f => f.elim) 4 (.bool true) (g := g)
    have := PeerAt.put (q := { p with waits := true }) (w' := (w.drewN n).setCell ⟨g, 4, none⟩ (.bool true)) hBg HS.out HB.out F hb'
    exact ⟨by rw [sentE, if_neg (by rw [HOK.out]; simp)]; rfl, by rw [sent, if_neg (by rw [HOK.out]; simp), if_pos H0.out]; exact this.1, this.2⟩
  · have hs1 := (may_stream HM.out h0).1
    have hc0' : ∀ n, (w.drewN n).cell? ⟨g, 0, none⟩ = some (.int .i64 1) := by rw [← hs1]; exact hc0
    have H0 := Lib.hid h0
    clear h0 hc0 hst hs1
    by_cases g3 : p.next ≤ last
    · have G3 := Lib.hid g3
      have hl0 : 0 ≤ last := by omega
      have d3 : decide (p.next ≤ last) = true := by simpa using g3
      have F1 := frm_set (fresh_drawn w n) (fun _ _ f => f.elim) 2 (.int .i64 (last + 1)) (g := g)
      have hb1 : Blk ((w.drewN n).setCell ⟨g, 2, none⟩ (.int .i64 (last + 1))) g 42 (pcells { p with next := last + 1 } (.slice A p.fly.length cap)) := pset (p := p) 2 (.int .i64 (last + 1)) rfl HB.out
      have hs1 : Sl ((w.drewN n).setCell ⟨g, 2, none⟩ (.int .i64 (last + 1))) B 3 1 (.slice A p.fly.length cap) p.fly.length (p.fly.map iv) := HS.out.frm F1 (fun k hk e => hap (by rw [hk, e]))
      have hr1 := rd_one ((w.drewN n).setCell ⟨g, 2, none⟩ (.int .i64 (last + 1))) (iv last) 3
      rw [show ((w.drewN n).setCell ⟨g, 2, none⟩ (.int .i64 (last + 1))).heap.size = w.heap.size from by simp] at hr1
      have HR1 := Lib.hid hr1
      clear hr1
      have HB1 := Lib.hid hb1
      have HS1 := Lib.hid hs1
      clear hb1 hs1
      go_wp2_with (first
        | (at_builtin
           refine wpList_append_sl _ rfl (.tmp 47) (.tmp 49) _ rfl B 3 i0 _ 1 8 Try.underlying33 hif hz0 hz1 hz2 rfl (by omega) (.slice A p.fly.length cap) _ _ rfl (HS1.out.alloc _) _ _ 1 1 [iv last] rfl rfl HR1.out (iv_one [last]) (by unfold maxLen; omega) (by omega) (by simp; omega) ?_
           intro v1 w2 hs2 hf2 ha2
           obtain ⟨A2, cap2, rfl, _⟩ := hs2.shape
           have F2 := Lib.hid (show Frm (fun k => k = g ∨ (Value.slice A p.fly.length cap).ownBlock = some k) w w2 from ((F1.mono (fun _ _ h => .inl h)).alloc _).trans' hf2 (fun _ _ h => .inr h))
           have hb2 : Blk w2 g 42 (pcells { p with next := last + 1 } (.slice A p.fly.length cap)) := (HB1.out.alloc _).frm hf2 (fun e => hap e)
           have hc2 : w2.cell? ⟨g, 5, none⟩ = some (.slice A p.fly.length cap) := hb2.cell 5
           have hf3 := hb2.frozen 5
           have HB2 := Lib.hid hb2
           have HS2 := Lib.hid hs2
           clear hb2 hs2 hf2 ha2 HB1 HS1 HR1 F1))
      go_ret
      have hb3 : Blk (w2.setCell ⟨g, 5, none⟩ (.slice A2 (p.fly.length + 1) cap2)) g 42 (pcells { p with next := last + 1, fly := p.fly ++ [last] } (.slice A2 (p.fly.length + 1) cap2)) := pset5 (p := { p with next := last + 1 }) rfl HB2.out
      have hs3 : Sl (w2.setCell ⟨g, 5, none⟩ (.slice A2 (p.fly.length + 1) cap2)) B 3 1 (.slice A2 (p.fly.length + 1) cap2) (p.fly ++ [last]).length ((p.fly ++ [last]).map iv) := by
        rw [List.length_append, List.map_append]
        exact HS2.out.frm ((Frm.refl (fun k => k = g) w2).setCell (p := ⟨g, 5, none⟩) (fun _ => rfl) _) (fun k hk e => HS2.out.apart HB2.out (by decide) (by rw [hk, e]))
      have F3 : Frm (fun k => k = g ∨ (Value.slice A p.fly.length cap).ownBlock = some k) w (w2.setCell ⟨g, 5, none⟩ (.slice A2 (p.fly.length + 1) cap2)) := F2.out.setCell (p := ⟨g, 5, none⟩) (fun _ => .inl rfl) _
      refine ⟨by rw [sentE, if_neg (by rw [HOK.out]; simp)]; rfl, ?_, F3.below hB (fun k hk h => ?_)⟩
      · rw [sent, if_neg (by rw [HOK.out]; simp), if_neg H0.out, if_pos G3.out]
        exact ⟨hBg, _, hb3, hs3⟩
      · rcases h with h | h
        · omega
        · have := (hlt k h).1; omega
    · have G3 := Lib.hid g3
      have d3 : decide (p.next ≤ last) = false := by simpa using g3
      go_wp2_with fail
      go_ret
      exact ⟨by rw [sentE, if_neg (by rw [HOK.out]; simp)]; rfl, by rw [sent, if_neg (by rw [HOK.out]; simp), if_neg H0.out, if_neg (show ¬ (p.next ≤ last) from by have := G3.out; omega)]; exact H.out.keep (fresh_drawn w n), below_drawn B w n⟩
end Go.Proofs.Ythglnipcddoblaa

/- What the methods of a peer compute, but Acked. -/
import Derived.Test.YthglnipcddoblaaNew
import Derived.Test.YthglnipcddoblaaPeerMath
import Derived.Test.YthglnipcddoblaaOpen
import Derived.Deep.QuietTactic
import Derived.BigQuiet
import Derived.WalkLawsBesides
namespace Go.Proofs.Ythglnipcddoblaa
open Go.RowKit Pg

def iv (z : Int) : Value := .int .i64 z
theorem iv_one (l : List Int) : ∀ u ∈ l.map iv, u.oneCell' = true := by
  intro u hu
  obtain ⟨_, _, rfl⟩ := List.mem_map.1 hu
  rfl
theorem info_int : (Try.prog.info? 3).map (fun i => (i.zero, i.size, i.bytes)) = some (some (.int .i64 0), 1, 8) := by kernel_rfl
def pcells (p : Pr) (v : Value) : Array Value := #[.int .i64 p.state, .int .i64 p.mat, .int .i64 p.next, .int .i64 p.window, .bool p.waits, v, .int .i64 p.snap]
/-- a peer in memory: its block, and the slice of those that fly -/
def PeerAt (w : World) (B g : Nat) (p : Pr) : Prop := B ≤ g ∧ ∃ v, Blk w g 42 (pcells p v) ∧ Sl w B 3 1 v p.fly.length (p.fly.map iv)

theorem PeerAt.keep {w w' : World} {B g : Nat} {p : Pr} (h : PeerAt w B g p) (hf : Fresh w w') : PeerAt w' B g p := by
  obtain ⟨hB, v, hb, hs⟩ := h
  exact ⟨hB, v, hb.frm hf (fun f => f), hs.fresh hf⟩
/-- a store into the peer's own block -/
theorem PeerAt.put {w : World} {B g : Nat} {p q : Pr} {v v' : Value} {w' : World} (hB : B ≤ g) (hs : Sl w B 3 1 v' q.fly.length (q.fly.map iv)) (hb : Blk w g 42 (pcells p v)) (hf : Frm (fun k => k = g) w w') (hb' : Blk w' g 42 (pcells q v')) : PeerAt w' B g q ∧ Below B w w' := by
  refine ⟨⟨hB, v', hb', hs.frm hf (fun k hk e => ?_)⟩, hf.below (by have := hb.lt; omega) (fun k hk e => by omega)⟩
  subst e
  exact hs.apart hb (by decide) hk
theorem frm_set {S : Nat → Prop} {w w' : World} {g : Nat} (h : Frm S w w') (hS : ∀ i, i < w.heap.size → S i → i = g) (o : Nat) (u : Value) : Frm (fun k => k = g) w (w'.setCell ⟨g, o, none⟩ u) :=
  (h.mono hS).setCell (fun _ => rfl) u

/-- the ways a method may end -/
def PeerPost (w : World) (B g : Nat) (q : Pr) (v : Value) (e : Ending) (w' : World) : Prop := e = .returned v ∧ PeerAt w' B g q ∧ Below B w w'

theorem state_any (w : World) (B g : Nat) (p : Pr) (h : PeerAt w B g p) : Calls Try.prog 15 #[.pointer (some ⟨g, 0, none⟩)] w fun e w' => e = .returned (.int .i64 p.state) ∧ w = w' := by
  obtain ⟨hB, v, hb, hs⟩ := h
  have hc : w.cell? ⟨g, 0, none⟩ = some (.int .i64 p.state) := hb.cell 0
  clear hs hb
  go_enter Try.func15, Try.ntmps15
  go_wp2_with fail
  go_ret
  exact ⟨rfl, rfl⟩
theorem match_any (w : World) (B g : Nat) (p : Pr) (h : PeerAt w B g p) : Calls Try.prog 12 #[.pointer (some ⟨g, 0, none⟩)] w fun e w' => e = .returned (.int .i64 p.mat) ∧ w = w' := by
  obtain ⟨hB, v, hb, hs⟩ := h
  have hc : w.cell? ⟨g, 1, none⟩ = some (.int .i64 p.mat) := hb.cell 1
  clear hs hb
  go_enter Try.func12, Try.ntmps12
  go_wp2_with fail
  go_ret
  exact ⟨rfl, rfl⟩
theorem next_any (w : World) (B g : Nat) (p : Pr) (h : PeerAt w B g p) : Calls Try.prog 13 #[.pointer (some ⟨g, 0, none⟩)] w fun e w' => e = .returned (.int .i64 p.next) ∧ w = w' := by
  obtain ⟨hB, v, hb, hs⟩ := h
  have hc : w.cell? ⟨g, 2, none⟩ = some (.int .i64 p.next) := hb.cell 2
  clear hs hb
  go_enter Try.func13, Try.ntmps13
  go_wp2_with fail
  go_ret
  exact ⟨rfl, rfl⟩
theorem flying_any (w : World) (B g : Nat) (p : Pr) (h : PeerAt w B g p) : Calls Try.prog 11 #[.pointer (some ⟨g, 0, none⟩)] w fun e w' => e = .returned (.int .i64 (p.fly.length : Int)) ∧ w = w' := by
  obtain ⟨hB, v, hb, hs⟩ := h
  obtain ⟨A, cap, rfl, _⟩ := hs.shape
  have hc : w.cell? ⟨g, 5, none⟩ = some (.slice A p.fly.length cap) := hb.cell 5
  clear hs hb
  go_enter Try.func11, Try.ntmps11
  go_wp2_with fail
  go_ret
  exact ⟨rfl, rfl⟩
theorem may_any (w : World) (B g : Nat) (p : Pr) (hi : Inv p) (h : PeerAt w B g p) : Calls Try.prog 14 #[.pointer (some ⟨g, 0, none⟩)] w fun e w' => e = .returned (.bool (may p)) ∧ ∃ n, w' = w.drewN n := by
  obtain ⟨hB, v, hb, hs⟩ := h
  obtain ⟨A, cap, rfl, _⟩ := hs.shape
  have hc0 : w.cell? ⟨g, 0, none⟩ = some (.int .i64 p.state) := hb.cell 0
  have hc3 : w.cell? ⟨g, 3, none⟩ = some (.int .i64 p.window) := hb.cell 3
  have hc4 : w.cell? ⟨g, 4, none⟩ = some (.bool p.waits) := hb.cell 4
  have hc5 : w.cell? ⟨g, 5, none⟩ = some (.slice A p.fly.length cap) := hb.cell 5
  have HM : Hid (may p = if p.state = 0 then !p.waits else if p.state = 1 then decide ((p.fly.length : Int) < p.window) else false) := Lib.hid rfl
  have hst := hi.st
  clear hs hb hi
  generalize p.state = s at *
  rcases hst with rfl | rfl | rfl
  · go_enter Try.func14, Try.ntmps14
    go_wp2_with fail
    go_ret
    exact ⟨by rw [HM.out]; rfl, 0, rfl⟩
  · go_enter Try.func14, Try.ntmps14
    go_wp2_with fail
    go_quiet (fail)
    go_wp2_with fail
    go_ret
    exact ⟨by rw [HM.out]; rfl, _, rfl⟩
  · go_enter Try.func14, Try.ntmps14
    go_wp2_with fail
    go_ret
    exact ⟨by rw [HM.out]; rfl, 0, rfl⟩
end Go.Proofs.Ythglnipcddoblaa

/- What the pieces of the program's reader compute: read, and what is deferred in it. -/
import Derived.Test.YtlceembcehokoaaRead2
import Derived.Tactics
import Derived.Tactics2
import Derived.Defers
import Derived.Recover
import Derived.Laws.Pointers
namespace Go.Proofs.Ytlceembcehokoaa
open Go.RowKit ReadM

/-- a reader in memory -/
def RdrAt (w : World) (B g : Nat) (bs : List UInt8) (bad : Bool) : Prop :=
  ∃ A cap, Blk w g 117 #[.slice A bs.length cap, .bool bad] ∧ Rd w B A (bs.map bv) ∧ bs.length ≤ cap ∧ cap ≤ maxLen ∧ B ≤ g
theorem RdrAt.frm {w w' : World} {B g : Nat} {bs : List UInt8} {bad : Bool} {S : Nat → Prop} (h : RdrAt w B g bs bad) (hf : Frm S w w') (hg : ¬ S g) (hS : ∀ k, k < B → ¬ S k) : RdrAt w' B g bs bad := by
  obtain ⟨A, cap, h1, h2, h3, h4, h5⟩ := h
  exact ⟨A, cap, h1.frm hf hg, h2.frm (by have := h1.lt; omega) hf (fun p _ hp => hS _ hp), h3, h4, h5⟩

def caught : FrameMode := .panicking [{ v := .iface 142 (.agg #[]), recovered := true }]
theorem catch_panic (p g : Nat) (w : World) (x : Bool) (hp : w.cell? ⟨p, 0, none⟩ = some (.pointer (some ⟨g, 0, none⟩))) (hc : w.cell? ⟨g, 1, none⟩ = some (.bool x)) (hz : w.frozen? ⟨g, 1, none⟩ = false) :
    CallsD Try.prog 115 #[.pointer (some ⟨p, 0, none⟩)] (.panicking thrown) w fun e u' w' =>
      e = .returned (.tuple #[]) ∧ u' = caught ∧ w' = w.setCell ⟨g, 1, none⟩ (.bool true) := by
  refine callsD_of_wpS Try.func115 rfl fun c₀ cs hu => ?_
  unfold thrown at hu
  apply wpS_seq
  apply wpS_region
  simp [wpOpsS, go_sem, recoverD, hu, Try.ntmps115, Exit.thenS]
  apply wpS_seq
  apply wpS_region
  simp [wpOpsS, go_sem, Exit.thenS]
  refine wpS_cond (t := true) (by simp [Act.eval, Array.replicate]) ?_
  simp only [if_true]
  apply wpS_region
  simp [wpOpsS, go_sem, hp, hc, hz, bodyPostS, results, Try.results115, caught]
theorem catch_idle (p : Nat) (w : World) :
    CallsD Try.prog 115 #[.pointer (some ⟨p, 0, none⟩)] .returning w fun e u' w' => e = .returned (.tuple #[]) ∧ u' = .returning ∧ w' = w := by
  refine callsD_of_wpS Try.func115 rfl fun c₀ cs hu => ?_
  apply wpS_seq
  apply wpS_region
  simp [wpOpsS, go_sem, recoverD, hu, Try.ntmps115, Exit.thenS]
  apply wpS_seq
  apply wpS_region
  simp [wpOpsS, go_sem, Exit.thenS]
  refine wpS_cond (t := false) (by simp [Act.eval, Array.replicate]) ?_
  simp only [Bool.false_eq_true, if_false]
  refine wpS_of_wp (wp_skip ?_)
  cases c₀
  simp_all [bodyPostS, results, Try.results115]

/-- what one reading makes of the bytes that are left: the rest, or that something is amiss -/
def ReadPost (w : World) (B gr go : Nat) (bs : List UInt8) (res : Option (List UInt8)) (Good : World → Prop) (e : Ending) (w' : World) : Prop :=
  e = .returned (.tuple #[]) ∧ match res with
    | some rest => RdrAt w' B gr rest false ∧ Good w' ∧ Frm (fun k => k = gr ∨ k = go) w w'
    | none => RdrAt w' B gr bs true ∧ Frm (fun k => k = gr) w w'
/-- what a function that reads does: either it takes away what it read, and lays what it read; or it throws, and nothing but the box of what is left has turned -/
def OnePost (w : World) (B g go : Nat) (res : Option (List UInt8)) (Good : World → Prop) (e : Ending) (w' : World) : Prop :=
  match res with
    | some rest => e = .returned (.tuple #[]) ∧ (∃ A' cap', Lft w' B g A' cap' rest) ∧ Good w' ∧ Frm (fun k => k = g ∨ k = go) w w'
    | none => e = .panicked thrown ∧ Frm (fun k => k = g) w w'
structure One (f : Nat) (caps : Array Value) (W : World) (B go : Nat) (bs : List UInt8) (res : Option (List UInt8)) (Good : World → Prop) : Prop where
  enter : ∀ args w, (callFunc f args).run Try.prog w = .ok (.enter f args) w
  step : ∀ w g A cap, Fresh W w → W.heap.size ≤ g → Lft w B g A cap bs → Calls Try.prog f (#[.pointer (some ⟨g, 0, none⟩)] ++ caps) w fun e w' => OnePost w B g go res Good e w'

set_option maxHeartbeats 1000000 in
theorem read_bad (f : Nat) (caps : Array Value) (w : World) (B gr go : Nat) (bs : List UInt8) (Good : World → Prop) (h : RdrAt w B gr bs true) :
    Calls Try.prog 91 #[.pointer (some ⟨gr, 0, none⟩), .func (.func f) #[] caps] w fun e w' => ReadPost w B gr go bs none Good e w' := by
  have hmf : ∀ (fn : Fn) (first cap : Array Value) (w : World), (Instr.makeFunc fn first cap).run Try.prog w = .ok (.func fn first cap) w := fun _ _ _ _ => rfl
  have H := Lib.hid h
  obtain ⟨A, cap, hb, hr, hle, hm, hBg⟩ := h
  have hc0 : w.cell? ⟨gr, 0, none⟩ = some (.slice A bs.length cap) := hb.cell 0
  have hc1 : w.cell? ⟨gr, 1, none⟩ = some (.bool true) := hb.cell 1
  have hf1 := hb.frozen 1
  have hlt := hb.lt
  have HB := Lib.hid hb
  have HR := Lib.hid hr
  clear hb hr
  go_enter_defers Try.func91, Try.ntmps91
  go_wp2_with fail
  refine (must_no _).mono ?_
  rintro e w1 ⟨rfl, rfl⟩
  go_wp2_with fail
  refine leaves_cons (f := 115) (args := #[.pointer (some ⟨w.heap.size, 0, none⟩)]) (by simp [thrown]) (by simp [go_sem]) ?_
  refine (catch_panic w.heap.size gr _ true ?_ ?_ ?_).mono ?_
  · exact (Blk.new w _ _).cell 0
  · exact (HB.out.alloc _).cell 1
  · exact (HB.out.alloc _).frozen 1
  rintro e u' w'' ⟨rfl, rfl, rfl⟩
  have F : Frm (fun k => k = gr) w ((w.alloc (.cells #[.pointer (some ⟨gr, 0, none⟩)] 83)).setCell ⟨gr, 1, none⟩ (.bool true)) := ((Frm.refl (fun k => k = gr) w).alloc _).setCell (p := ⟨gr, 1, none⟩) (fun _ => rfl) _
  have hb2 := ((HB.out.alloc (.cells #[.pointer (some ⟨gr, 0, none⟩)] 83)).set 1 (.bool true))
  have hfin : ReadPost w B gr go bs none Good (.returned (.tuple #[])) ((w.alloc (.cells #[.pointer (some ⟨gr, 0, none⟩)] 83)).setCell ⟨gr, 1, none⟩ (.bool true)) :=
    ⟨rfl, ⟨A, cap, hb2, HR.out.frm (by omega) F (fun p _ hp e => by omega), hle, hm, hBg⟩, F⟩
  simp [Leaves, settle, caught, results, Try.results91, go_sem]
  exact hfin
set_option maxHeartbeats 1000000 in
theorem read_good (f : Nat) (caps : Array Value) (w : World) (B gr go : Nat) (bs : List UInt8) (res : Option (List UInt8)) (Good : World → Prop) (h : RdrAt w B gr bs false) (hgo : go < w.heap.size) (hne : go ≠ gr) (hgB : B ≤ go)
    (hone : One f caps w B go bs res Good) (hG : ∀ w2 w3, Frm (fun k => k = gr) w2 w3 → Good w2 → Good w3) :
    Calls Try.prog 91 #[.pointer (some ⟨gr, 0, none⟩), .func (.func f) #[] caps] w fun e w' => ReadPost w B gr go bs res Good e w' := by
  have hmf : ∀ (fn : Fn) (first cap : Array Value) (w : World), (Instr.makeFunc fn first cap).run Try.prog w = .ok (.func fn first cap) w := fun _ _ _ _ => rfl
  have hen := hone.enter
  have HO := Lib.hid hone
  have HG := Lib.hid hG
  obtain ⟨A, cap, hb, hr, hle, hm, hBg⟩ := h
  have hc0 : w.cell? ⟨gr, 0, none⟩ = some (.slice A bs.length cap) := hb.cell 0
  have hc1 : w.cell? ⟨gr, 1, none⟩ = some (.bool false) := hb.cell 1
  have hf1 := hb.frozen 1
  have hf0 := hb.frozen 0
  have hlt := hb.lt
  have HB := Lib.hid hb
  have HR := Lib.hid hr
  clear hb hr hone hG
  go_enter_defers Try.func91, Try.ntmps91
  go_wp2_with fail
  refine (must_yes _).mono ?_
  rintro e w1 ⟨rfl, rfl⟩
  go_wp2_with fail
  have F0 : Fresh w ((w.alloc (.cells #[.pointer (some ⟨gr, 0, none⟩)] 83)).alloc (.cells #[.slice A bs.length cap] 26)) := ((Frm.refl _ w).alloc _).alloc _
  have b1 : Blk ((w.alloc (.cells #[.pointer (some ⟨gr, 0, none⟩)] 83)).alloc (.cells #[.slice A bs.length cap] 26)) w.heap.size 83 #[.pointer (some ⟨gr, 0, none⟩)] := (Blk.new w _ _).alloc _
  have b2 : Blk ((w.alloc (.cells #[.pointer (some ⟨gr, 0, none⟩)] 83)).alloc (.cells #[.slice A bs.length cap] 26)) (w.heap.size + 1) 26 #[.slice A bs.length cap] := by
    have := Blk.new (w.alloc (.cells #[.pointer (some ⟨gr, 0, none⟩)] 83)) 26 #[.slice A bs.length cap]
    simpa using this
  have hl1 : Lft ((w.alloc (.cells #[.pointer (some ⟨gr, 0, none⟩)] 83)).alloc (.cells #[.slice A bs.length cap] 26)) B (w.heap.size + 1) A cap bs := ⟨b2, HR.out.fresh (by omega) F0, hle, hm, by omega⟩
  refine (HO.out.step _ (w.heap.size + 1) A cap F0 (by omega) hl1).mono ?_
  have b3 : Blk ((w.alloc (.cells #[.pointer (some ⟨gr, 0, none⟩)] 83)).alloc (.cells #[.slice A bs.length cap] 26)) gr 117 #[.slice A bs.length cap, .bool false] := HB.out.frm F0 (fun f => f)
  have HB1 := Lib.hid b1
  have HB3 := Lib.hid b3
  have HF0 := Lib.hid F0
  clear b1 b2 b3 F0 hl1 hc0 hc1 hf0 hf1
  cases res with
  | none =>
    rintro e w2 ⟨rfl, F2⟩
    have B1 := Lib.hid (HB1.out.frm F2 (show ¬ (w.heap.size = w.heap.size + 1) by omega))
    have B3 := Lib.hid (HB3.out.frm F2 (show ¬ (gr = w.heap.size + 1) by omega))
    have HF2 : Hid (Frm (fun k => k = gr) w w2) := Lib.hid (Fresh.frm (show Fresh w w2 from HF0.out.trans' F2 (fun i hi h => by omega)))
    clear F2 HB1 HB3
    go_wp2_with fail
    refine leaves_cons (f := 115) (args := #[.pointer (some ⟨w.heap.size, 0, none⟩)]) (by simp [thrown]) (by simp [go_sem]) ?_
    refine (catch_panic w.heap.size gr _ false ?_ ?_ ?_).mono ?_
    · exact B1.out.cell 0
    · exact B3.out.cell 1
    · exact B3.out.frozen 1
    rintro e u' w'' ⟨rfl, rfl, rfl⟩
    have F : Frm (fun k => k = gr) w (w2.setCell ⟨gr, 1, none⟩ (.bool true)) := HF2.out.setCell (p := ⟨gr, 1, none⟩) (fun _ => rfl) _
    have hb2 := B3.out.set 1 (.bool true)
    have hfin : ReadPost w B gr go bs none Good (.returned (.tuple #[])) (w2.setCell ⟨gr, 1, none⟩ (.bool true)) :=
      ⟨rfl, ⟨A, cap, hb2, HR.out.frm (by omega) F (fun p _ hp e => by omega), hle, hm, hBg⟩, F⟩
    simp [Leaves, settle, caught, results, Try.results91, go_sem]
    exact hfin
  | some rest =>
    rintro e w2 ⟨rfl, ⟨A', cap', hl2⟩, hg2, F2⟩
    have B1 := HB1.out.frm F2 (show ¬ (w.heap.size = w.heap.size + 1 ∨ w.heap.size = go) by omega)
    have B3 := HB3.out.frm F2 (show ¬ (gr = w.heap.size + 1 ∨ gr = go) by omega)
    have HF2 : Hid (Frm (fun k => k = gr ∨ k = go) w w2) := Lib.hid ((Fresh.frm (S := fun k => k = gr ∨ k = go) HF0.out).trans' F2 (fun i hi h => by omega))
    have k1 : w2.cell? ⟨w.heap.size, 0, none⟩ = some (.pointer (some ⟨gr, 0, none⟩)) := B1.cell 0
    have k2 : w2.cell? ⟨w.heap.size + 1, 0, none⟩ = some (.slice A' rest.length cap') := hl2.box.cell 0
    have k3 : w2.cell? ⟨gr, 0, none⟩ = some (.slice A bs.length cap) := B3.cell 0
    have k4 := B3.frozen 0
    have HL2 := Lib.hid hl2
    have HG2 := Lib.hid hg2
    have HB4 := Lib.hid B3
    clear F2 HB1 HB3 B1 B3 hl2 hg2
    go_wp2_with fail
    refine leaves_cons (f := 115) (args := #[.pointer (some ⟨w.heap.size, 0, none⟩)]) (by simp) (by simp [go_sem]) ?_
    refine (catch_idle w.heap.size _).mono ?_
    rintro e u' w'' ⟨rfl, rfl, rfl⟩
    have FS : Frm (fun k => k = gr) w2 (w2.setCell ⟨gr, 0, none⟩ (.slice A' rest.length cap')) := (Frm.refl (fun k => k = gr) w2).setCell (p := ⟨gr, 0, none⟩) (fun _ => rfl) _
    have F : Frm (fun k => k = gr ∨ k = go) w (w2.setCell ⟨gr, 0, none⟩ (.slice A' rest.length cap')) := HF2.out.setCell (p := ⟨gr, 0, none⟩) (fun _ => .inl rfl) _
    have hfin : ReadPost w B gr go bs (some rest) Good (.returned (.tuple #[])) (w2.setCell ⟨gr, 0, none⟩ (.slice A' rest.length cap')) :=
      ⟨rfl, ⟨A', cap', HB4.out.set 0 _, HL2.out.rd.frm (by have := HL2.out.box.lt; have := HL2.out.hB; omega) FS (fun p _ hp e => by omega), HL2.out.le, HL2.out.most, hBg⟩, HG.out _ _ FS HG2.out, F⟩
    simp [Leaves, settle, results, Try.results91, go_sem]
    exact hfin
end Go.Proofs.Ytlceembcehokoaa

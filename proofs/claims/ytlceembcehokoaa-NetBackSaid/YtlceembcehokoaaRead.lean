/- What the pieces of the program's reader compute: must, take. -/
import Derived.Test.YtlceembcehokoaaNumP
import Derived.Test.YtlceembcehokoaaReads
import Derived.Lib.Hide
namespace Go.Proofs.Ytlceembcehokoaa
open Go.RowKit

/-- what is thrown -/
def thrown : List PanicEntry := [{ v := .iface 142 (.agg #[]), recovered := false }]
theorem must_yes (w : World) : Calls Try.prog 94 #[.bool true] w fun e w' => e = .returned (.tuple #[]) ∧ w' = w := by
  go_enter Try.func94, Try.ntmps94
  go_wp2_with fail
  go_end0
  exact ⟨rfl, rfl⟩
theorem must_no (w : World) : Calls Try.prog 94 #[.bool false] w fun e w' => e = .panicked thrown ∧ w' = w := by
  go_enter Try.func94, Try.ntmps94
  go_wp2_with fail
  exact ⟨rfl, rfl, rfl⟩

/-- bytes that are left to be read: a box that holds them -/
structure Lft (w : World) (B g : Nat) (A : Option Addr) (cap : Nat) (bs : List UInt8) : Prop where
  box : Blk w g 26 #[.slice A bs.length cap]
  rd : Rd w B A (bs.map bv)
  le : bs.length ≤ cap
  most : cap ≤ maxLen
  hB : B ≤ g
theorem Lft.frm {w w' : World} {B g : Nat} {A : Option Addr} {cap : Nat} {bs : List UInt8} {S : Nat → Prop} (h : Lft w B g A cap bs) (hf : Frm S w w') (hg : ¬ S g) (hS : ∀ k, k < B → ¬ S k) : Lft w' B g A cap bs :=
  ⟨h.box.frm hf hg, h.rd.frm (by have := h.box.lt; have := h.hB; omega) hf (fun p _ hp => hS _ hp), h.le, h.most, h.hB⟩
theorem Lft.fresh {w w' : World} {B g : Nat} {A : Option Addr} {cap : Nat} {bs : List UInt8} (h : Lft w B g A cap bs) (hf : Fresh w w') : Lft w' B g A cap bs := h.frm hf (fun f => f) (fun _ _ f => f)

theorem Rd.rest {w : World} {B : Nat} {A : Option Addr} {xs : List Value} (h : Rd w B A xs) {n cap : Nat} (hc : xs.length ≤ cap) : Rd w B (if cap = n then A else Option.map (fun x => x.add n) A) (xs.drop n) := h.cut hc
set_option maxHeartbeats 400000 in
theorem take_no (w : World) (B g : Nat) (A : Option Addr) (cap : Nat) (bs : List UInt8) (n : Nat) (h : Lft w B g A cap bs) (hn : bs.length < n) :
    Calls Try.prog 97 #[.pointer (some ⟨g, 0, none⟩), .int .i64 (n : Int)] w fun e w' => e = .panicked thrown ∧ w' = w := by
  have hc : w.cell? ⟨g, 0, none⟩ = some (.slice A bs.length cap) := h.box.cell 0
  have d1 : decide (n ≤ bs.length) = false := by simp; omega
  have hn2 : (bs.length : Int) < (n : Int) := by omega
  clear h
  go_enter Try.func97, Try.ntmps97
  go_wp2_with fail
  refine (must_no _).mono ?_
  rintro e w1 ⟨rfl, rfl⟩
  go_wp2_with fail
  exact ⟨rfl, rfl, rfl⟩
def TakePost (w : World) (B g : Nat) (A : Option Addr) (cap : Nat) (bs : List UInt8) (n : Nat) (e : Ending) (w' : World) : Prop :=
  ∃ A', e = .returned (.slice A n cap) ∧ Lft w' B g A' (cap - n) (bs.drop n) ∧ Rd w' B A ((bs.take n).map bv) ∧ Frm (fun k => k = g) w w'
theorem take_close {w : World} {B g : Nat} {A : Option Addr} {cap : Nat} {bs : List UInt8} {n : Nat} (h : Lft w B g A cap bs) (hn : n ≤ bs.length) :
    TakePost w B g A cap bs n (.returned (.slice A n cap)) (w.setCell ⟨g, 0, none⟩ (.slice (if cap = n then A else Option.map (fun x => x.add n) A) (bs.length - n) (cap - n))) := by
  have F : Frm (fun k => k = g) w (w.setCell ⟨g, 0, none⟩ (.slice (if cap = n then A else Option.map (fun x => x.add n) A) (bs.length - n) (cap - n))) := (Frm.refl (fun k => k = g) w).setCell (p := ⟨g, 0, none⟩) (fun _ => rfl) _
  have hB := h.hB
  have hBw : B ≤ w.heap.size := by have := h.box.lt; omega
  have hle := h.le
  have hm := h.most
  refine ⟨if cap = n then A else Option.map (fun x => x.add n) A, rfl, ⟨?_, ?_, by rw [List.length_drop]; omega, by unfold maxLen at *; omega, hB⟩, ?_, F⟩
  · have := h.box.set 0 (.slice (if cap = n then A else Option.map (fun x => x.add n) A) (bs.length - n) (cap - n))
    rw [List.length_drop]
    exact this
  · rw [List.map_drop]
    exact (h.rd.frm hBw F (fun p _ hp e => by omega)).rest (by simpa using hle)
  · rw [List.map_take]
    exact (h.rd.frm hBw F (fun p _ hp e => by omega)).take n
set_option maxHeartbeats 400000 in
theorem take_yes (w : World) (B g : Nat) (A : Option Addr) (cap : Nat) (bs : List UInt8) (n : Nat) (h : Lft w B g A cap bs) (hn : n ≤ bs.length) :
    Calls Try.prog 97 #[.pointer (some ⟨g, 0, none⟩), .int .i64 (n : Int)] w fun e w' => TakePost w B g A cap bs n e w' := by
  have hc : w.cell? ⟨g, 0, none⟩ = some (.slice A bs.length cap) := h.box.cell 0
  have hf := h.box.frozen 0
  have d1 : decide (n ≤ bs.length) = true := by simp; omega
  have hle := h.le
  have hmost := h.most
  unfold maxLen at hmost
  have hn0 : (0 : Int) ≤ n := by omega
  have hn1 : (n : Int) ≤ bs.length := by omega
  have hn2 : (n : Int) ≤ cap := by omega
  have hn3 : n ≤ cap := by omega
  have hn4 : (bs.length : Int) ≤ cap := by omega
  have H := Lib.hid h
  clear h
  go_enter Try.func97, Try.ntmps97
  go_wp2_with fail
  refine (must_yes _).mono ?_
  rintro e w1 ⟨rfl, rfl⟩
  have HT := Lib.hid (take_close H.out hn)
  by_cases hcn : cap = n
  · subst hcn
    rw [if_pos rfl, Nat.sub_self, show bs.length - cap = 0 from by omega] at HT
    go_wp2_with fail
    go_ret
    exact HT.out
  · rw [if_neg hcn] at HT
    go_wp2_with fail
    go_ret
    exact HT.out
end Go.Proofs.Ytlceembcehokoaa

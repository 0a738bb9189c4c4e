/- Slices of slices of bytes that came in: as lists of lists of bytes, and the cells that hold them. No program is named here. -/
import Derived.Test.YtlceembcehokoaaReads
namespace Go.Proofs.Ytlceembcehokoaa.Rc
set_option maxRecDepth 100000
open Go.RowKit

/-- a slice of bytes as a datum: where it lies, how many it may hold, its bytes -/
abbrev Bs : Type := Option Addr × Nat × List UInt8
def bsv (b : Bs) : Value := .slice b.1 b.2.2.length b.2.1
structure IsBs (w : World) (B : Nat) (b : Bs) : Prop where
  rd : Rd w B b.1 (b.2.2.map bv)
  le : b.2.2.length ≤ b.2.1
  most : b.2.1 ≤ maxLen
  reach : b.2.1 ≤ 140737488351232
/-- a slice of such slices -/
structure IsBss (w : World) (B : Nat) (A : Option Addr) (cap : Nat) (l : List Bs) : Prop where
  rd : Rd w B A (l.map bsv)
  le : l.length ≤ cap
  most : cap ≤ maxLen
  all : ∀ b ∈ l, IsBs w B b
theorem IsBs.keep {w w' : World} {B : Nat} {b : Bs} (h : IsBs w B b) (hB : B ≤ w.heap.size) (F : Fresh w w') : IsBs w' B b := ⟨h.rd.fresh hB F, h.le, h.most, h.reach⟩
theorem IsBss.keep {w w' : World} {B : Nat} {A : Option Addr} {cap : Nat} {l : List Bs} (h : IsBss w B A cap l) (hB : B ≤ w.heap.size) (F : Fresh w w') : IsBss w' B A cap l :=
  ⟨h.rd.fresh hB F, h.le, h.most, fun b hb => (h.all b hb).keep hB F⟩
theorem IsBss.below {w w' : World} {B : Nat} {A : Option Addr} {cap : Nat} {l : List Bs} (h : IsBss w B A cap l) (hb : Below B w w') : IsBss w' B A cap l :=
  ⟨h.rd.below hb, h.le, h.most, fun b hb' => ⟨(h.all b hb').rd.below hb, (h.all b hb').le, (h.all b hb').most, (h.all b hb').reach⟩⟩
/-- one of them: the cell, and its bytes -/
theorem IsBss.at_ {w : World} {B : Nat} {A : Option Addr} {cap : Nat} {l : List Bs} (h : IsBss w B A cap l) {k : Nat} (hk : k < l.length) :
    ∃ b o, A = some ⟨b, o, none⟩ ∧ b < B ∧ w.cell? ⟨b, o + k, none⟩ = some (bsv l[k]) ∧ IsBs w B l[k] := by
  obtain ⟨b, o, hA, hb, hc⟩ := h.rd.at_ (k := k) (by simpa using hk)
  rw [List.getElem_map] at hc
  exact ⟨b, o, hA, hb, hc, h.all _ (List.getElem_mem hk)⟩
def u8f : Int → List Value := fun n => [.int .u8 n]
def u8q : Int → Prop := fun n => (Lit.int .u8 n).wf = true
theorem map_u8 (bs : List UInt8) : (bs.map fun b => (b.toNat : Int)).flatMap u8f = bs.map bv := by
  induction bs with
  | nil => rfl
  | cons b r ih => rw [List.map_cons, List.flatMap_cons, ih]; rfl
theorem to_bs {w : World} {s : Option Addr × Nat × List Int} (h : IsL w 1 u8f u8q s) : ∃ b : Bs, sv s = bsv b ∧ IsBs w w.heap.size b := by
  obtain ⟨A, cap, zs⟩ := s
  obtain ⟨bs, rfl⟩ := bytes_of_ints zs h.all
  refine ⟨(A, cap, bs), by simp [sv, bsv], ⟨?_, by simpa using h.le, h.most, ?_⟩⟩
  · have := h.rd
    simp only [map_u8] at this
    exact this
  · have := h.reach
    simp only [Nat.mul_one] at this
    exact this
theorem to_bss {w : World} {s : Option Addr × Nat × List (Option Addr × Nat × List Int)} (h : IsL w 24 (fun s => [sv s]) (IsL w 1 u8f u8q) s) : ∃ l : List Bs, sv s = .slice s.1 l.length s.2.1 ∧ IsBss w w.heap.size s.1 s.2.1 l := by
  obtain ⟨A, cap, xs⟩ := s
  have key : ∀ (xs : List (Option Addr × Nat × List Int)), (∀ x ∈ xs, IsL w 1 u8f u8q x) → ∃ l : List Bs, l.length = xs.length ∧ (xs.flatMap fun s => [sv s]) = l.map bsv ∧ ∀ b ∈ l, IsBs w w.heap.size b := by
    intro xs
    induction xs with
    | nil => intro _; exact ⟨[], rfl, rfl, by simp⟩
    | cons x r ih =>
      intro hx
      obtain ⟨b, h1, h2⟩ := to_bs (hx x (by simp))
      obtain ⟨l, h3, h4, h5⟩ := ih (fun y hy => hx y (by simp [hy]))
      refine ⟨b :: l, by simp [h3], by rw [List.flatMap_cons, h4, h1]; rfl, fun c hc => ?_⟩
      rcases List.mem_cons.1 hc with rfl | hc
      · exact h2
      · exact h5 c hc
  obtain ⟨l, h1, h2, h3⟩ := key xs h.all
  refine ⟨l, by simp [sv, h1], ⟨?_, by rw [h1]; exact h.le, h.most, h3⟩⟩
  have := h.rd
  simp only [h2] at this
  exact this
end Go.Proofs.Ytlceembcehokoaa.Rc

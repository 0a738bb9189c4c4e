/- How the arguments of a law are opened: a slice of numbers that came in, as a list and the cells that hold it. No program is named here. -/
import Derived.Test.YtlceembcehokoaaMem
import Derived.ProofKit
import Derived.OpenShut
import Derived.SizedLaws
import Derived.ChangeOld
import Derived.Carry
import Derived.Laws.Cover2
namespace Go.Proofs.Ytlceembcehokoaa
open Go.RowKit Go.ChangeShapes Go.WideShapes

/-- a slice of numbers that came in -/
structure IsInts (k : IntKind) (W : World) (A : Option Addr) (cap : Nat) (zs : List Int) : Prop where
  le : zs.length ≤ cap
  most : cap ≤ maxLen
  none_ : A = none → cap = 0
  rd : Rd W W.heap.size A (zs.map (Value.int k))
  wf : ∀ n ∈ zs, (Lit.int k n).wf = true

/-- a byte as a value -/
def bv (b : UInt8) : Value := .int .u8 (b.toNat : Int)
theorem bv_one (l : List UInt8) : ∀ u ∈ l.map bv, u.oneCell' = true := by
  intro u hu
  obtain ⟨_, _, rfl⟩ := List.mem_map.1 hu
  rfl
structure IsBytes (W : World) (A : Option Addr) (cap : Nat) (bs : List UInt8) : Prop where
  le : bs.length ≤ cap
  most : cap ≤ maxLen
  none_ : A = none → cap = 0
  rd : Rd W W.heap.size A (bs.map bv)

theorem bytes_of_ints : ∀ (zs : List Int), (∀ n ∈ zs, (Lit.int .u8 n).wf = true) → ∃ bs : List UInt8, zs = bs.map (fun b => (b.toNat : Int))
  | [], _ => ⟨[], rfl⟩
  | z :: r, h => by
    obtain ⟨bs, hb⟩ := bytes_of_ints r (fun n hn => h n (by simp [hn]))
    have hz := h z (by simp)
    have : 0 ≤ z ∧ z ≤ 255 := by simpa [Lit.wf, IntKind.min, IntKind.max, IntKind.signed, IntKind.bits] using hz
    refine ⟨UInt8.ofNat z.toNat :: bs, ?_⟩
    rw [hb]
    have e : (UInt8.ofNat z.toNat).toNat = z.toNat := by rw [UInt8.toNat_ofNat']; omega
    simp only [List.map_cons, e]
    congr 1
    omega
theorem IsInts.bytes {W : World} {A : Option Addr} {cap : Nat} {zs : List Int} (h : IsInts .u8 W A cap zs) : ∃ bs : List UInt8, zs.length = bs.length ∧ IsBytes W A cap bs := by
  obtain ⟨bs, rfl⟩ := bytes_of_ints zs h.wf
  refine ⟨bs, by simp, ⟨by simpa using h.le, h.most, h.none_, ?_⟩⟩
  have e : bs.map bv = (bs.map (fun b => (b.toNat : Int))).map (Value.int .u8) := by simp [bv, Function.comp_def]
  rw [e]
  exact h.rd

section
variable {H : Type} {enc : TypeId × Value → H} {P : Program} {W : World} {base : Nat} {t e : TypeId} {k : IntKind} {v : Value} {d : DataW H} {p : List MemPlace}
theorem open_ints_arg (ht : P.underlying t = some (.slice e)) (he : P.underlying e = some (.int k)) (hc : P.cellsOf e = 1)
    (hv : Value.okWide P W .any base t v) (h : DataW.Trod enc P W 0 (fun _ => true) true t v d p) :
    ∃ (A : Option Addr) (cap : Nat) (zs : List Int), v = .slice A zs.length cap ∧ IsInts k W A cap zs ∧
      (∀ n : Nat, (∀ elems spare, d = .slice elems spare → (elems.length + spare.length) * P.bytesOf e ≤ n) → cap * P.bytesOf e ≤ n) := by
  obtain ⟨a0, len, cap, rfl⟩ := okWide_slice ht hv
  obtain ⟨fuel, hf⟩ := h
  rcases open_ints ht he hc hf with ⟨hcs, _⟩ | ⟨x, l, c, zs, hcs, _, hl, hm, hz, hx, hcell, hwz⟩
  · simp [Value.cells] at hcs
    obtain ⟨rfl, rfl, rfl⟩ := hcs
    exact ⟨none, 0, [], rfl, ⟨by simp, by simp [maxLen], fun _ => rfl, Rd.nil _ _ _, by simp⟩, fun n _ => by simp⟩
  · simp [Value.cells] at hcs
    obtain ⟨rfl, rfl, rfl⟩ := hcs
    have hz' : zs.length = cap := by simpa using hz
    have htl : (zs.take len).length = len := by rw [List.length_take]; omega
    refine ⟨some x, cap, zs.take len, by rw [htl], ⟨by rw [htl]; exact hl, hm, fun h => (by cases h), fun hne => ?_, fun n hn => hwz n (List.mem_of_mem_take hn)⟩, fun n hn => ?_⟩
    · have h0 : 0 < zs.length := by
        rcases Nat.eq_zero_or_pos zs.length with h0 | h0
        · have := List.eq_nil_of_length_eq_zero h0
          subst this
          simp at hne
        · exact h0
      have c0 := hcell 0 h0
      obtain ⟨b, off, spot⟩ := x
      have hspot : spot = none := by simpa [Addr.add] using World.cell?_spot c0
      subst hspot
      have hb : b < W.heap.size := by
        have := World.block_lt_of_cell? W _ c0
        simpa [Addr.add_lit] using this
      refine ⟨b, off, rfl, hb, fun j u hu => ?_⟩
      have hj : j < zs.length := by
        have := (List.getElem?_eq_some_iff.1 hu).1
        simp at this
        omega
      have hcj := hcell j hj
      rw [Addr.add_lit] at hcj
      rw [hcj]
      have hjl : j < len := by
        have := (List.getElem?_eq_some_iff.1 hu).1
        simp at this
        omega
      have e : ((zs.take len).map (Value.int k))[j]? = some (.int k (zs.getD j 0)) := by
        simp [List.getD, hjl, hj]
      rw [e] at hu
      exact hu
    · have hd := congrArg Prod.fst hx
      have := hn _ _ hd
      have hcl : (min len cap + (cap - len)) = cap := by omega
      have h2 : (min len cap + (cap - len)) * P.bytesOf e ≤ n := by simpa [lits, hz'] using this
      rwa [hcl] at h2
end
end Go.Proofs.Ytlceembcehokoaa

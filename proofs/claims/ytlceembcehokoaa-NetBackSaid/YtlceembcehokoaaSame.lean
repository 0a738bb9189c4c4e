/- What the reference's Same computes of two lists that are the same. -/
import Derived.Test.YtlceembcehokoaaScanRef
namespace Go.Proofs.Ytlceembcehokoaa.Rc
set_option maxRecDepth 100000
open Go.RowKit

theorem drewN_add (w : World) (k n : Nat) : (w.drewN k).drewN n = w.drewN (k + n) := by simp [World.drewN, Nat.add_assoc]
/-- a list of byte slices that can be read -/
def RdLs (w : World) (A : Option Addr) (l : List (List UInt8)) : Prop :=
  ∃ bl : List Bs, Rd w w.heap.size A (bl.map bsv) ∧ (∀ b ∈ bl, Rd w w.heap.size b.1 (b.2.2.map bv)) ∧ bl.map (·.2.2) = l
theorem RdLs.fresh {w w' : World} {A : Option Addr} {l : List (List UInt8)} (h : RdLs w A l) (F : Fresh w w') : RdLs w' A l := by
  obtain ⟨bl, h1, h2, h3⟩ := h
  exact ⟨bl, (h1.fresh (Nat.le_refl _) F).more F.size, fun b hb => ((h2 b hb).fresh (Nat.le_refl _) F).more F.size, h3⟩
theorem Lists.reads {w : World} {B : Nat} {v : Value} {l : List (List UInt8)} (h : Lists w B v l) : ∃ A cap, v = .slice A l.length cap ∧ l.length ≤ cap ∧ cap ≤ maxLen ∧ RdLs w A l := by
  obtain ⟨bl, h1, h2, h3⟩ := h
  have hl : bl.length = l.length := by rw [← h3, List.length_map]
  rw [hl] at h1
  obtain ⟨A, cap, rfl, hc, hm, _⟩ := h1.shape
  exact ⟨A, cap, rfl, hc, hm, bl, h1.rd, fun b hb => (h2 b hb).rd, h3⟩
theorem RdLs.at_ {w : World} {A : Option Addr} {l : List (List UInt8)} (h : RdLs w A l) {k : Nat} (hk : k < l.length) :
    ∃ b o A' c', A = some ⟨b, o, none⟩ ∧ w.cell? ⟨b, o + k, none⟩ = some (.slice A' (l[k]).length c') ∧ Rd w w.heap.size A' ((l[k]).map bv) := by
  obtain ⟨bl, h1, h2, h3⟩ := h
  subst h3
  have hkb : k < bl.length := by simpa using hk
  obtain ⟨b, o, hA, _, hc⟩ := h1.at_ (k := k) (by simpa using hkb)
  rw [List.getElem_map] at hc
  have h := h2 _ (List.getElem_mem hkb)
  refine ⟨b, o, bl[k].1, bl[k].2.1, hA, ?_, ?_⟩
  · rw [hc]; simp [bsv]
  · simpa using h
end Go.Proofs.Ytlceembcehokoaa.Rc

/- A map of the call's own with bools in it: asked, written, struck; beside other blocks. No program is named here. -/
import Derived.Test.YtlceembcehokoaaMem
import Derived.Maps.Own
import Derived.Maps.OwnOps
import Derived.Maps.OwnSet
import Derived.Maps.Views
import Derived.Maps.Keyed
namespace Go.Proofs.Ytlceembcehokoaa
open Go.RowKit

section
variable {H : Type} {P : Program} {k : TypeId} {R : Value → Option (DataW H × List MemPlace)} {w w' : World} {b n : Nat} {D : DataW H}
theorem OM.same (h : w.ownsMap P k R b n D) (e : w'.heap[b]? = w.heap[b]?) : w'.ownsMap P k R b n D := by
  obtain ⟨es, clock, hb, r⟩ := h
  exact ⟨es, clock, e.trans hb, r⟩
theorem OM.frm {S : Nat → Prop} (h : w.ownsMap P k R b n D) (F : Frm S w w') (hn : ¬ S b) : w'.ownsMap P k R b n D := OM.same h (F.block b h.lt hn)
theorem OM.not_cells (h : w.ownsMap P k R b n D) {g : Nat} {t : TypeId} {cs : Array Value} (hg : Blk w g t cs) : b ≠ g := by
  rintro rfl
  obtain ⟨es, clock, hb, _⟩ := h
  unfold Blk at hg
  rw [hb] at hg
  injection hg with hg
  cases hg
theorem OM.not_sl (h : w.ownsMap P k R b n D) {B e size : Nat} {v : Value} {m : Nat} {xs : List Value} (hs : Sl w B e size v m xs) : v.ownBlock ≠ some b := by
  intro hv
  rcases hs.2 with ⟨rfl, _⟩ | ⟨g, o, cap, cur, rfl, _, hb, _⟩
  · simp [Value.ownBlock] at hv
  · have : g = b := by simpa [Value.ownBlock] using hv
    subst this
    exact OM.not_cells h hb rfl
/-- asked, of bools -/
theorem OM.ask {t e : TypeId} (h : w.ownsMap P k (plainElem P e) b n D) (K : Maps.Keyed P k) (ht : P.underlying t = some (.map k e)) (he : P.underlying e = some .bool) (hz : (zeroValue e).run P w = .ok (.bool false) w)
    {key : Value} {kl : Lit} (hkey : keyOf P k key = some kl) {r : Bool} (hr : D.atKey kl (.lit (.bool false)) = .lit (.bool r)) : (Instr.lookup t (.map (some b)) key false).run P w = .ok (.bool r) w := by
  obtain ⟨v, ps, hrun, hv⟩ := h.lookup K ht hz (plainElem_bool he false) hkey
  rw [hr] at hv
  unfold plainElem at hv
  rw [he] at hv
  cases v <;> simp at hv
  obtain ⟨rfl, _⟩ := hv
  exact hrun
end
end Go.Proofs.Ytlceembcehokoaa

/- Lists that are built by adding, one behind the other. No program is named here. -/
import Derived.Test.YthofodjklogfgaaQueueMath
namespace Go.Proofs.Ythofodjklogfgaa.QueueM

/-- what adding the first ones comes to -/
def build (Z : Nat → Wt) : Nat → List Wt
  | 0 => []
  | i + 1 => (QueueM.add (Z i) (build Z i)).2
structure Built (Z : Nat → Wt) (i : Nat) : Prop where
  good : Good (build Z i)
  len : (build Z i).length ≤ i
  mem : ∀ x, x ∈ build Z i ↔ ∃ j, j < i ∧ x = Z j ∧ right (Z j) = true
theorem Built.no {Z : Nat → Wt} (hd : ∀ i j, i < j → (Z i).id ≠ (Z j).id) {i : Nat} (h : Built Z i) : has (Z i).id (build Z i) = false := by
  rcases Bool.eq_false_or_eq_true (has (Z i).id (build Z i)) with hh | hh
  · obtain ⟨x, hx, he⟩ := has_iff.1 hh
    obtain ⟨j, hj, rfl, _⟩ := (h.mem x).1 hx
    exact absurd he (hd j i hj)
  · exact hh
theorem built {Z : Nat → Wt} (hd : ∀ i j, i < j → (Z i).id ≠ (Z j).id) : ∀ i, i ≤ 200 → Built Z i
  | 0, _ => ⟨Good.nil, Nat.le_refl _, fun x => by simp [build]⟩
  | i + 1, hi => by
    have h := built hd i (by omega)
    have hn := h.no hd
    have e : build Z (i + 1) = if right (Z i) = true then ins (Z i) (build Z i) else build Z i := by
      show (QueueM.add (Z i) (build Z i)).2 = _
      unfold QueueM.add
      by_cases hr : right (Z i) = true
      · rw [if_pos hr, if_pos hr, hn, if_neg (by simp), if_neg (by have := h.len; omega)]
      · rw [if_neg hr, if_neg hr]
    refine ⟨h.good.add (Z i), ?_, fun x => ?_⟩
    · rw [e]
      have := h.len
      split
      · rw [ins_length]; omega
      · omega
    · rw [e]
      split
      · rename_i hr
        rw [mem_ins, h.mem]
        constructor
        · rintro (rfl | ⟨j, hj, h1, h2⟩)
          · exact ⟨i, by omega, rfl, hr⟩
          · exact ⟨j, by omega, h1, h2⟩
        · rintro ⟨j, hj, h1, h2⟩
          rcases Nat.lt_or_ge j i with hl | hl
          · exact .inr ⟨j, hl, h1, h2⟩
          · obtain rfl : j = i := by omega
            exact .inl h1
      · rename_i hr
        rw [h.mem]
        constructor
        · rintro ⟨j, hj, h1, h2⟩
          exact ⟨j, by omega, h1, h2⟩
        · rintro ⟨j, hj, h1, h2⟩
          rcases Nat.lt_or_ge j i with hl | hl
          · exact ⟨j, hl, h1, h2⟩
          · obtain rfl : j = i := by omega
            exact absurd h2 hr
theorem add_code {Z : Nat → Wt} (hd : ∀ i j, i < j → (Z i).id ≠ (Z j).id) {i : Nat} (hi : i ≤ 199) : (QueueM.add (Z i) (build Z i)).1 = 0 ∨ (QueueM.add (Z i) (build Z i)).1 = 1 := by
  have h := built hd i (by omega)
  have hn := h.no hd
  unfold QueueM.add
  by_cases hr : right (Z i) = true
  · rw [if_pos hr, hn, if_neg (by simp), if_neg (by have := h.len; omega)]
    exact .inl rfl
  · rw [if_neg hr]
    exact .inr rfl
/-- the same ones, added the other way round, are the same list -/
theorem build_rev {Z Y : Nat → Wt} {n : Nat} (hn : n ≤ 200) (hz : ∀ i j, i < j → (Z i).id ≠ (Z j).id) (hy : ∀ i j, i < j → (Y i).id ≠ (Y j).id) (hyz : ∀ j, j < n → Y j = Z (n - 1 - j)) : build Z n = build Y n := by
  have h1 := built hz n hn
  have h2 := built hy n hn
  refine sorted_ext _ _ h1.good.sorted h2.good.sorted fun x => ?_
  rw [h1.mem, h2.mem]
  constructor
  · rintro ⟨j, hj, rfl, hr⟩
    refine ⟨n - 1 - j, by omega, ?_, ?_⟩
    · rw [hyz _ (by omega)]; congr 1; omega
    · rw [hyz _ (by omega), show n - 1 - (n - 1 - j) = j by omega]; exact hr
  · rintro ⟨j, hj, rfl, hr⟩
    exact ⟨n - 1 - j, by omega, hyz j hj, by rw [← hyz j hj]; exact hr⟩
end Go.Proofs.Ythofodjklogfgaa.QueueM

/- Nested limits in plain Lean: a sale, a return. No program is named here. -/
import Derived.Test.YtgkkkibagbdlcaaNestMath
namespace Go.Proofs.Ytgkkkibagbdlcaa.NestM

/-- of one class so many more -/
def plus (s : List Int) (k : Nat) (m : Int) : List Int := s.set k (at_ s k + m)
theorem plus_length (s : List Int) (k : Nat) (m : Int) : (plus s k m).length = s.length := by unfold plus; rw [List.length_set]
theorem at_plus {s : List Int} {k : Nat} (hk : k < s.length) (m : Int) (j : Nat) : at_ (plus s k m) j = at_ s j + if j = k then m else 0 := by
  unfold plus
  generalize hx : at_ s k + m = x
  unfold at_ at hx ⊢
  simp only [List.getD, List.getElem?_set]
  by_cases h : k = j
  · subst h
    simp only [if_pos hk, if_true, Option.getD_some]
    rw [← hx]
    simp [List.getD]
  · rw [if_neg h, if_neg (fun e => h e.symm)]
    omega
theorem sfx_plus {s : List Int} {k : Nat} (hk : k < s.length) (m : Int) : ∀ (d j : Nat), s.length ≤ j + d → sfx (plus s k m) j = sfx s j + if j ≤ k then m else 0 := by
  intro d
  induction d with
  | zero =>
    intro j hj
    rw [sfx_end (by rw [plus_length]; omega), sfx_end (by omega), if_neg (by omega)]
    rfl
  | succ d ih =>
    intro j hj
    rcases Nat.lt_or_ge j s.length with hl | hl
    · rw [sfx_step (by rw [plus_length]; exact hl), sfx_step hl, ih (j + 1) (by omega), at_plus hk]
      by_cases h1 : j = k
      · subst h1
        rw [if_pos rfl, if_neg (by omega), if_pos (Nat.le_refl _)]
        omega
      · rw [if_neg h1]
        by_cases h2 : j ≤ k
        · rw [if_pos h2, if_pos (by omega)]; omega
        · rw [if_neg h2, if_neg (by omega)]; omega
    · rw [sfx_end (by rw [plus_length]; omega), sfx_end (by omega), if_neg (by omega)]
      rfl
theorem sfx_plus' {s : List Int} {k : Nat} (hk : k < s.length) (m : Int) (j : Nat) : sfx (plus s k m) j = sfx s j + if j ≤ k then m else 0 := sfx_plus hk m s.length j (by omega)
theorem plus_back {s : List Int} {k : Nat} (hk : k < s.length) (m : Int) : plus (plus s k m) k (-m) = s := by
  have h := at_plus hk m k
  rw [if_pos rfl] at h
  unfold plus at h ⊢
  rw [h, List.set_set, show at_ s k + m + -m = at_ s k by omega, at_get hk]
  exact List.set_getElem_self hk

/-- may so many be sold of one class? -/
def Asked (l s : List Int) (c : Int) : Prop := Right l s ∧ 0 ≤ c ∧ c < l.length
theorem sfx_pos {l s : List Int} (h : Ok l s) (j : Nat) (hj : j ≤ l.length) : 0 ≤ sfx s j := by
  have h0 : OkFrom l s j := fun i _ hi => h.2 i (by omega) hi
  exact (sfx_bd h.1.2.2 (l.length - j) j (by omega) h0).1
theorem right_fine {l s : List Int} (h : Right l s) {j : Nat} (hj : j < l.length) : sfx s j ≤ at_ l j := (fine_iff l s 0 (Nat.zero_le _)).1 h.2 j (Nat.zero_le _) hj
theorem right_lim {l s : List Int} (h : Right l s) {j : Nat} (hj : j < l.length) : 0 ≤ at_ l j ∧ at_ l j ≤ 10000 := wi_true (h.1.2 j (Nat.zero_le _) hj).1
theorem right_sold {l s : List Int} (h : Right l s) {j : Nat} (hj : j < l.length) : 0 ≤ at_ s j ∧ at_ s j ≤ 10000 := wi_true (h.1.2 j (Nat.zero_le _) hj).2.1
theorem right_mk {l s s' : List Int} (h : Right l s) (hl : s'.length = s.length) (h0 : ∀ j, j < l.length → 0 ≤ at_ s' j) (h1 : ∀ j, j < l.length → sfx s' j ≤ at_ l j) (h2 : ∀ j, j < l.length → at_ s' j ≤ sfx s' j) : Right l s' := by
  have hl' : s'.length = l.length := by rw [hl]; exact h.1.1.2.2
  refine ⟨⟨⟨h.1.1.1, h.1.1.2.1, hl'⟩, fun j _ hj => ?_⟩, (fine_iff l s' 0 (Nat.zero_le _)).2 fun j _ hj => h1 j hj⟩
  have a1 := right_lim h hj
  have a2 := h0 j hj
  have a3 := h1 j hj
  have a4 := h2 j hj
  exact ⟨wi_mk a1, wi_mk ⟨a2, by omega⟩, (h.1.2 j (Nat.zero_le _) hj).2.2⟩
theorem at_le_sfx {l s : List Int} (hl : s.length = l.length) (h0 : ∀ j, j < l.length → 0 ≤ at_ s j) : ∀ d j, l.length = j + d → 0 ≤ sfx s j ∧ (j < l.length → at_ s j ≤ sfx s j) := by
  intro d
  induction d with
  | zero => intro j hj; rw [sfx_end (by omega)]; exact ⟨by omega, fun h => by omega⟩
  | succ d ih =>
    intro j hj
    have h1 := ih (j + 1) (by omega)
    have h2 := h0 j (by omega)
    rw [sfx_step (by omega)]
    exact ⟨by omega, fun _ => by omega⟩
theorem right_plus {l s : List Int} (h : Right l s) {c : Nat} (hc : c < l.length) {m : Int} (hm : 0 ≤ at_ s c + m) (hle : ∀ j, j ≤ c → sfx s j + m ≤ at_ l j) : Right l (plus s c m) := by
  have hl : s.length = l.length := h.1.1.2.2
  have h0 : ∀ j, j < l.length → 0 ≤ at_ (plus s c m) j := fun j hj => by
    rw [at_plus (by omega)]
    have := right_sold h hj
    by_cases e : j = c
    · subst e; rw [if_pos rfl]; exact hm
    · rw [if_neg e]; omega
  refine right_mk h (plus_length _ _ _) h0 (fun j hj => ?_) (fun j hj => (at_le_sfx (by rw [plus_length]; exact hl) h0 (l.length - j) j (by omega)).2 hj)
  rw [sfx_plus' (by omega)]
  by_cases e : j ≤ c
  · rw [if_pos e]; exact hle j e
  · rw [if_neg e]; have := right_fine h hj; omega
theorem le_least {l s : List Int} {c : Nat} (hc : c < l.length) (y : Int) : y ≤ least l s (c : Int) 0 ↔ y ≤ 10000 ∧ ∀ j : Nat, j ≤ c → y ≤ at_ l j - sfx s j := by
  rw [least_up hc, leastUp_le]
  constructor
  · intro ⟨h0, h⟩; exact ⟨h0, fun j hj => h j (by omega)⟩
  · intro ⟨h0, h⟩; exact ⟨h0, fun j hj => h j (by omega)⟩
theorem least_pos {l s : List Int} (h : Right l s) {c : Nat} (hc : c < l.length) : 0 ≤ least l s (c : Int) 0 := (le_least hc 0).2 ⟨by omega, fun j hj => by have := right_fine h (j := j) (by omega); omega⟩
theorem least_le {l s : List Int} {c : Nat} (hc : c < l.length) : least l s (c : Int) 0 ≤ 10000 := ((le_least hc _).1 (Int.le_refl _)).1
theorem least_mono {l s : List Int} {c d : Nat} (hc : c < l.length) (hd : d ≤ c) : least l s (c : Int) 0 ≤ least l s (d : Int) 0 := by
  have h := (le_least hc _).1 (Int.le_refl (least l s (c : Int) 0))
  exact (le_least (by omega) _).2 ⟨h.1, fun j hj => h.2 j (by omega)⟩
theorem right_sale {l s : List Int} (h : Right l s) {c : Nat} (hc : c < l.length) {m : Int} (h1 : 1 ≤ m) (h2 : m ≤ least l s (c : Int) 0) : Right l (plus s c m) := by
  have := ((le_least hc m).1 h2).2
  exact right_plus h hc (by have := right_sold h hc; omega) (fun j hj => by have := this j hj; omega)
theorem right_back {l s : List Int} (h : Right l s) {c : Nat} (hc : c < l.length) {m : Int} (h1 : 1 ≤ m) (h2 : m ≤ at_ s c) : Right l (plus s c (-m)) :=
  right_plus h hc (by omega) (fun j hj => by have := right_fine h (j := j) (by omega); omega)
theorem least_sale {l s : List Int} (h : Right l s) {c d : Nat} (hc : c < l.length) (hd : d ≤ c) {m : Int} (h1 : 1 ≤ m) : least l (plus s c m) (d : Int) 0 = least l s (d : Int) 0 - m := by
  have hl : s.length = l.length := h.1.1.2.2
  have hb : ∀ y, y ≤ least l (plus s c m) (d : Int) 0 ↔ y + m ≤ least l s (d : Int) 0 := by
    intro y
    rw [le_least (by omega), le_least (by omega)]
    have l0 := right_lim h (j := 0) (by omega)
    have s0 := sfx_pos h.1 0 (by omega)
    constructor
    · intro ⟨a, b⟩
      have b0 := b 0 (by omega)
      rw [sfx_plus' (by omega), if_pos (by omega)] at b0
      refine ⟨by omega, fun j hj => ?_⟩
      have := b j hj
      rw [sfx_plus' (by omega), if_pos (by omega)] at this
      omega
    · intro ⟨a, b⟩
      refine ⟨by omega, fun j hj => ?_⟩
      have := b j hj
      rw [sfx_plus' (by omega), if_pos (by omega)]
      omega
  have a := (hb _).1 (Int.le_refl _)
  have b := (hb (least l s (d : Int) 0 - m)).2 (by omega)
  omega
/-- nothing sold -/
theorem at_zeros (n j : Nat) : at_ (List.replicate n 0) j = 0 := by
  unfold at_
  rw [List.getD, List.getElem?_replicate]
  split <;> rfl
theorem sfx_zeros (n j : Nat) : sfx (List.replicate n 0) j = 0 := by
  unfold sfx
  rw [List.drop_replicate]
  induction (n - j) with
  | zero => rfl
  | succ k ih => rw [List.replicate_succ, List.sum_cons, ih]; rfl
attribute [irreducible] plus
end Go.Proofs.Ytgkkkibagbdlcaa.NestM

/- Proved here, for the statement TopFairCardSaid: laws that its walk leans on. It holds with no condition. (Put together and shortened by a program out of many texts: NestMath.) -/
import Derived.Test.YtbeaoddjomdlcaaGreatDoorZ00
set_option linter.unusedVariables false
set_option linter.unusedSimpArgs false
set_option maxRecDepth 100000
set_option maxHeartbeats 64000000
namespace Go.Proofs.YtbeaoddjomdlcaaGreatDoor.NestM
def at_ (l : List Int) (k : Nat) : Int := l.getD k 0
theorem at_get {l : List Int} {k : Nat} (h : k < l.length) : at_ l k = l[k] := by simp [at_, List.getD, h]
def wi (n : Int) : Bool := decide (0 ≤ n ∧ n ≤ 10000)
theorem wi_true {n : Int} (h : wi n = true) : 0 ≤ n ∧ n ≤ 10000 := by simpa [wi] using h
theorem wi_mk {n : Int} (h : 0 ≤ n ∧ n ≤ 10000) : wi n = true := by simpa [wi] using h
def sfx (s : List Int) (k : Nat) : Int := (s.drop k).sum
theorem sfx_step {s : List Int} {k : Nat} (h : k < s.length) : sfx s k = at_ s k + sfx s (k + 1) := by
  unfold sfx at_
  rw [List.drop_eq_getElem_cons h, List.sum_cons]
  simp [List.getD, h]
theorem sfx_end {s : List Int} {k : Nat} (h : s.length ≤ k) : sfx s k = 0 := by
  unfold sfx
  rw [List.drop_of_length_le h]
  rfl
def OkAt (l s : List Int) (k : Nat) : Prop := wi (at_ l k) = true ∧ wi (at_ s k) = true ∧ (0 < k → at_ l k ≤ at_ l (k - 1))
def OkFrom (l s : List Int) (m : Nat) : Prop := ∀ j, m ≤ j → j < l.length → OkAt l s j
theorem sfx_bd {l s : List Int} (hs : s.length = l.length) : ∀ (d m : Nat), l.length = m + d → OkFrom l s m → 0 ≤ sfx s m ∧ sfx s m ≤ 10000 * d := by
  intro d
  induction d with
  | zero => intro m hm _; rw [sfx_end (by omega)]; omega
  | succ d ih =>
    intro m hm h
    have h1 := ih (m + 1) (by omega) (fun j hj hl => h j (by omega) hl)
    have h2 := wi_true (h m (Nat.le_refl _) (by omega)).2.1
    rw [sfx_step (by omega)]
    omega
def fineF (l s : List Int) : Nat → Nat → Bool
  | 0, _ => true
  | f + 1, m => fineF l s f (m + 1) && decide (sfx s m ≤ at_ l m)
def fine (l s : List Int) (m : Nat) : Bool := fineF l s (l.length - m) m
theorem fine_step {l s : List Int} {m : Nat} (h : m < l.length) : fine l s m = (fine l s (m + 1) && decide (sfx s m ≤ at_ l m)) := by
  unfold fine
  rw [show l.length - m = (l.length - (m + 1)) + 1 by omega]
  rfl
theorem fine_end (l s : List Int) : fine l s l.length = true := by unfold fine; rw [Nat.sub_self]; rfl
theorem fineF_iff (l s : List Int) : ∀ f m, fineF l s f m = true ↔ ∀ j, m ≤ j → j < m + f → sfx s j ≤ at_ l j := by
  intro f
  induction f with
  | zero => intro m; simp [fineF]; intro j h1 h2; omega
  | succ f ih =>
    intro m
    rw [fineF, Bool.and_eq_true, ih, decide_eq_true_eq]
    constructor
    · intro ⟨h1, h2⟩ j hj hl
      rcases Nat.eq_or_lt_of_le hj with e | e
      · subst e; exact h2
      · exact h1 j e (by omega)
    · intro h
      exact ⟨fun j hj hl => h j (by omega) (by omega), h m (Nat.le_refl _) (by omega)⟩
theorem fine_iff (l s : List Int) (m : Nat) (hm : m ≤ l.length) : fine l s m = true ↔ ∀ j, m ≤ j → j < l.length → sfx s j ≤ at_ l j := by
  unfold fine
  rw [fineF_iff, show m + (l.length - m) = l.length by omega]
def Shape (l s : List Int) : Prop := 1 ≤ l.length ∧ l.length ≤ 8 ∧ s.length = l.length
def Ok (l s : List Int) : Prop := Shape l s ∧ OkFrom l s 0
def Right (l s : List Int) : Prop := Ok l s ∧ fine l s 0 = true
def leastF (l s : List Int) (c : Int) : Nat → Nat → Int
  | 0, _ => 10000
  | f + 1, m => if (m : Int) ≤ c then min (leastF l s c f (m + 1)) (at_ l m - sfx s m) else leastF l s c f (m + 1)
def least (l s : List Int) (c : Int) (m : Nat) : Int := leastF l s c (l.length - m) m
theorem least_step {l s : List Int} {c : Int} {m : Nat} (h : m < l.length) : least l s c m = if (m : Int) ≤ c then min (least l s c (m + 1)) (at_ l m - sfx s m) else least l s c (m + 1) := by
  unfold least
  rw [show l.length - m = (l.length - (m + 1)) + 1 by omega]
  rfl
theorem least_end (l s : List Int) (c : Int) : least l s c l.length = 10000 := by unfold least; rw [Nat.sub_self]; rfl
theorem leastF_le (l s : List Int) (c y : Int) : ∀ f m, y ≤ leastF l s c f m ↔ y ≤ 10000 ∧ ∀ j : Nat, m ≤ j → j < m + f → (j : Int) ≤ c → y ≤ at_ l j - sfx s j := by
  intro f
  induction f with
  | zero => intro m; simp [leastF]; intro _ j h1 h2; omega
  | succ f ih =>
    intro m
    rw [leastF]
    split
    · rename_i hm
      rw [Int.le_min, ih]
      constructor
      · intro ⟨⟨h0, h1⟩, h2⟩
        refine ⟨h0, fun j hj hl hc => ?_⟩
        rcases Nat.eq_or_lt_of_le hj with e | e
        · subst e; exact h2
        · exact h1 j e (by omega) hc
      · intro ⟨h0, h⟩
        exact ⟨⟨h0, fun j hj hl hc => h j (by omega) (by omega) hc⟩, h m (Nat.le_refl _) (by omega) hm⟩
    · rename_i hm
      rw [ih]
      constructor
      · intro ⟨h0, h1⟩
        refine ⟨h0, fun j hj hl hc => ?_⟩
        rcases Nat.eq_or_lt_of_le hj with e | e
        · subst e; exact absurd hc hm
        · exact h1 j e (by omega) hc
      · intro ⟨h0, h⟩
        exact ⟨h0, fun j hj hl hc => h j (by omega) (by omega) hc⟩
def leastUp (l s : List Int) : Nat → Int
  | 0 => 10000
  | k + 1 => min (leastUp l s k) (at_ l k - sfx s k)
theorem leastUp_le (l s : List Int) (y : Int) : ∀ k, y ≤ leastUp l s k ↔ y ≤ 10000 ∧ ∀ j : Nat, j < k → y ≤ at_ l j - sfx s j := by
  intro k
  induction k with
  | zero => simp [leastUp]
  | succ k ih =>
    rw [leastUp, Int.le_min, ih]
    constructor
    · intro ⟨⟨h0, h1⟩, h2⟩
      refine ⟨h0, fun j hj => ?_⟩
      rcases Nat.lt_or_ge j k with e | e
      · exact h1 j e
      · rw [show j = k by omega]; exact h2
    · intro ⟨h0, h⟩
      exact ⟨⟨h0, fun j hj => h j (by omega)⟩, h k (by omega)⟩
theorem least_up {l s : List Int} {c : Nat} (hc : c < l.length) : least l s (c : Int) 0 = leastUp l s (c + 1) := by
  have h : ∀ y, y ≤ least l s (c : Int) 0 ↔ y ≤ leastUp l s (c + 1) := by
    intro y
    unfold least
    rw [leastF_le, leastUp_le]
    constructor
    · intro ⟨h0, h⟩; exact ⟨h0, fun j hj => h j (by omega) (by omega) (by omega)⟩
    · intro ⟨h0, h⟩; exact ⟨h0, fun j _ _ hc => h j (by omega)⟩
  have h1 := (h _).1 (Int.le_refl _)
  have h2 := (h _).2 (Int.le_refl _)
  omega
attribute [irreducible] at_ sfx least
end Go.Proofs.YtbeaoddjomdlcaaGreatDoor.NestM

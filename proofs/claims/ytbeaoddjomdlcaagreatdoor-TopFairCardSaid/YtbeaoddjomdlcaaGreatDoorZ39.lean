/- Proved here, for the statement TopFairCardSaid: laws that its walk leans on. It holds with no condition. (Put together and shortened by a program out of many texts: ReadMath.) -/
import Derived.Test.YtbeaoddjomdlcaaGreatDoorZ38
set_option linter.unusedVariables false
set_option linter.unusedSimpArgs false
set_option maxRecDepth 100000
set_option maxHeartbeats 64000000
namespace Go.Proofs.YtbeaoddjomdlcaaGreatDoor.ReadM
def val (d : List UInt8) : Nat := d.foldl (fun n b => n * 256 + b.toNat) 0
theorem val_snoc (d : List UInt8) (b : UInt8) : val (d ++ [b]) = val d * 256 + b.toNat := by simp [val]
theorem val_lt (d : List UInt8) : val d < 256 ^ d.length := by
  have h : ∀ (d : List UInt8) (n k : Nat), n < 256 ^ k → d.foldl (fun n b => n * 256 + b.toNat) n < 256 ^ (k + d.length) := by
    intro d
    induction d with
    | nil => intro n k h; simpa using h
    | cons b r ih =>
      intro n k h
      have hb := b.toNat_lt
      have h1 : n * 256 + b.toNat < 256 ^ (k + 1) := by rw [Nat.pow_succ]; omega
      have := ih _ _ h1
      simp only [List.foldl_cons, List.length_cons]
      rw [show k + (r.length + 1) = k + 1 + r.length by omega]
      exact this
  have := h d 0 0 (by simp)
  rw [Nat.zero_add] at this
  exact this
theorem take_snoc {d : List UInt8} {k : Nat} (h : k < d.length) : d.take (k + 1) = d.take k ++ [d[k]] := by rw [List.take_succ_eq_append_getElem h]
def neg (b : UInt8) : Bool := decide (16 ≤ b.toNat)
def wid (b : UInt8) : Nat := if 16 ≤ b.toNat then b.toNat - 16 else b.toNat
def okHead (b : UInt8) : Bool := decide (b.toNat < 32) && decide (wid b ≤ 8) && (decide (0 < wid b) || !neg b)
def lean (d : List UInt8) : Bool := match d with | [] => true | b :: _ => decide (0 < b.toNat)
def dec : List UInt8 → Option (Nat × Bool × List UInt8)
  | [] => none
  | b :: r => if okHead b = true ∧ wid b ≤ r.length ∧ lean (r.take (wid b)) = true then some (val (r.take (wid b)), neg b, r.drop (wid b)) else none
theorem wid_le {b : UInt8} (h : okHead b = true) : wid b ≤ 8 := by
  simp only [okHead, Bool.and_eq_true, decide_eq_true_eq] at h
  exact h.1.2
theorem dec_some {b : UInt8} {r : List UInt8} (h1 : okHead b = true) (h2 : wid b ≤ r.length) (h3 : lean (r.take (wid b)) = true) : dec (b :: r) = some (val (r.take (wid b)), neg b, r.drop (wid b)) := by
  rw [dec, if_pos ⟨h1, h2, h3⟩]
theorem dec_none {b : UInt8} {r : List UInt8} (h : okHead b = false ∨ r.length < wid b ∨ lean (r.take (wid b)) = false) : dec (b :: r) = none := by
  rw [dec, if_neg]
  rintro ⟨h1, h2, h3⟩
  rcases h with h | h | h
  · rw [h1] at h; cases h
  · omega
  · rw [h3] at h; cases h
theorem val_u64 {b : UInt8} {r : List UInt8} (h1 : okHead b = true) : val (r.take (wid b)) < 18446744073709551616 := by
  have h := val_lt (r.take (wid b))
  have h2 : (r.take (wid b)).length ≤ 8 := by rw [List.length_take]; have := wid_le h1; omega
  have h3 : 256 ^ (r.take (wid b)).length ≤ 256 ^ 8 := Nat.pow_le_pow_right (by omega) h2
  omega
def numRes (most : Nat) (bs : List UInt8) : Option (Nat × List UInt8) :=
  match dec bs with
  | some (n, false, rest) => if n ≤ most then some (n, rest) else none
  | _ => none
def textRes (most : Int) (bs : List UInt8) : Option (List UInt8 × List UInt8) :=
  match dec bs with
  | some (n, false, rest) => if 0 ≤ most ∧ (n : Int) ≤ most ∧ n ≤ rest.length then some (rest.take n, rest.drop n) else none
  | _ => none
theorem dec_lt {bs : List UInt8} {n : Nat} {m : Bool} {rest : List UInt8} (h : dec bs = some (n, m, rest)) : n < 18446744073709551616 := by
  cases bs with
  | nil => cases h
  | cons b r =>
    rw [dec] at h
    split at h
    · rename_i hh
      injection h with h
      injection h with h1 _
      subst h1
      exact val_u64 hh.1
    · cases h
theorem dec_len {bs : List UInt8} {n : Nat} {m : Bool} {rest : List UInt8} (h : dec bs = some (n, m, rest)) : rest.length < bs.length := by
  cases bs with
  | nil => cases h
  | cons b r =>
    rw [dec] at h
    split at h
    · injection h with h
      injection h with _ h2
      injection h2 with _ h3
      subst h3
      rw [List.length_drop, List.length_cons]
      omega
    · cases h
end Go.Proofs.YtbeaoddjomdlcaaGreatDoor.ReadM

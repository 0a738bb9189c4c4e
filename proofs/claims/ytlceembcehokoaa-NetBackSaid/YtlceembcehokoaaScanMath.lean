/- What a scan tells, in plain Lean. -/
import Derived.Test.YtlceembcehokoaaRec2
namespace Go.Proofs.Ytlceembcehokoaa.Rc
set_option maxRecDepth 100000

def num (l : List UInt8) : Nat := l.foldl (fun n b => n * 256 + b.toNat) 0
theorem num_snoc (l : List UInt8) (b : UInt8) : num (l ++ [b]) = num l * 256 + b.toNat := by simp [num]
/-- the record that stands first: what it holds -/
def scan1 (bs : List UInt8) : Option (List UInt8) :=
  if 8 ≤ bs.length ∧ num (bs.take 4) ≤ 65536 ∧ 8 + num (bs.take 4) ≤ bs.length ∧ rec ((bs.drop 8).take (num (bs.take 4))) = bs.take (8 + num (bs.take 4)) then some ((bs.drop 8).take (num (bs.take 4))) else none
theorem scan1_len {bs x : List UInt8} (h : scan1 bs = some x) : 8 + x.length ≤ bs.length ∧ x.length = num (bs.take 4) ∧ rec x = bs.take (8 + x.length) := by
  unfold scan1 at h
  split at h
  · rename_i hc
    injection h with h
    have hl : x.length = num (bs.take 4) := by rw [← h, List.length_take, List.length_drop]; omega
    exact ⟨by omega, hl, by rw [hl, ← hc.2.2.2, ← h]⟩
  · cases h
def scanF : Nat → List UInt8 → List (List UInt8) × Nat
  | 0, _ => ([], 0)
  | f + 1, bs => match scan1 bs with
    | none => ([], 0)
    | some x => (x :: (scanF f (bs.drop (8 + x.length))).1, 8 + x.length + (scanF f (bs.drop (8 + x.length))).2)
theorem scanF_more : ∀ (n f g : Nat) (bs : List UInt8), bs.length ≤ n → n ≤ f → n ≤ g → scanF f bs = scanF g bs := by
  intro n
  induction n with
  | zero =>
    intro f g bs h hf hg
    have hb : bs = [] := List.eq_nil_of_length_eq_zero (by omega)
    subst hb
    have : scan1 [] = none := by simp [scan1]
    cases f <;> cases g <;> simp [scanF, this]
  | succ n ih =>
    intro f g bs h hf hg
    obtain ⟨f, rfl⟩ : ∃ f', f = f' + 1 := ⟨f - 1, by omega⟩
    obtain ⟨g, rfl⟩ : ∃ g', g = g' + 1 := ⟨g - 1, by omega⟩
    simp only [scanF]
    cases hs : scan1 bs with
    | none => rfl
    | some x =>
      have := scan1_len hs
      simp only
      rw [ih f g _ (by rw [List.length_drop]; omega) (by omega) (by omega)]
/-- the records with which some bytes begin, and how many bytes they are -/
def scan (bs : List UInt8) : List (List UInt8) × Nat := scanF bs.length bs
theorem scan_none {bs : List UInt8} (h : scan1 bs = none) : scan bs = ([], 0) := by
  unfold scan
  cases bs.length with
  | zero => rfl
  | succ n => rw [scanF, h]
theorem scan_some {bs x : List UInt8} (h : scan1 bs = some x) : scan bs = (x :: (scan (bs.drop (8 + x.length))).1, 8 + x.length + (scan (bs.drop (8 + x.length))).2) := by
  have hl := scan1_len h
  obtain ⟨n, hn⟩ : ∃ n, bs.length = n + 1 := ⟨bs.length - 1, by omega⟩
  unfold scan
  rw [hn, scanF, h]
  simp only
  rw [scanF_more (bs.drop (8 + x.length)).length n (bs.drop (8 + x.length)).length _ (Nat.le_refl _) (by rw [List.length_drop]; omega) (Nat.le_refl _)]
/-- what has been told when the scan stands at a -/
def Told (bs : List UInt8) (pre : List (List UInt8)) (a : Nat) : Prop := a ≤ bs.length ∧ scan bs = (pre ++ (scan (bs.drop a)).1, a + (scan (bs.drop a)).2)
theorem Told.start (bs : List UInt8) : Told bs [] 0 := ⟨Nat.zero_le _, by simp⟩
theorem Told.step {bs : List UInt8} {pre : List (List UInt8)} {a : Nat} {x : List UInt8} (h : Told bs pre a) (hx : scan1 (bs.drop a) = some x) : Told bs (pre ++ [x]) (a + 8 + x.length) := by
  obtain ⟨h1, h2⟩ := h
  have hl := scan1_len hx
  rw [List.length_drop] at hl
  refine ⟨by omega, ?_⟩
  rw [h2, scan_some hx, List.drop_drop]
  simp only [List.append_assoc, List.singleton_append]
  rw [show a + (8 + x.length) = a + 8 + x.length by omega]
  congr 1
  omega
theorem Told.stop {bs : List UInt8} {pre : List (List UInt8)} {a : Nat} (h : Told bs pre a) (hx : scan1 (bs.drop a) = none) : scan bs = (pre, a) := by
  rw [h.2, scan_none hx]; simp
end Go.Proofs.Ytlceembcehokoaa.Rc

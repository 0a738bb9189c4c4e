/- What the laws on a peer ask: that so many messages go as the window lets; that what was sent and acked is known. No program is named here. -/
import Derived.Test.YthglnipcddoblaaPeerMath
namespace Go.Proofs.Ythglnipcddoblaa.Pg

def fresh (next window : Int) : Pr := ⟨0, 0, next, window, false, [], 0⟩
/-- the first so many -/
def upto (n : Nat) : List Int := (List.range n).map fun k : Nat => (k : Int) + 1
theorem upto_length (n : Nat) : (upto n).length = n := by simp [upto]
theorem upto_succ (n : Nat) : upto (n + 1) = upto n ++ [(n : Int) + 1] := by simp [upto, List.range_succ]
def wst (m : Int) (n : Nat) : Pr := ⟨1, 0, (n : Int) + 1, m, false, upto n, 0⟩
theorem wait0 (m : Int) : acked (fresh 1 m) 0 = wst m 0 := by simp [acked, fresh, wst, within, upTo, upto]
theorem wait1 {m n : Nat} (h : n < m) (hm : m ≤ 64) : sentE (wst m n) ((n : Int) + 1) = 0 ∧ sent (wst m n) ((n : Int) + 1) = wst m (n + 1) := by
  have hok : sentOk (wst m n) ((n : Int) + 1) = true := by
    simp [sentOk, may, wst, upto_length]
    omega
  constructor
  · rw [sentE, hok]; rfl
  · rw [sent, hok, if_neg (by simp), if_neg (by show ¬ ((1 : Int) = 0); omega), if_pos (by show (n : Int) + 1 ≤ n + 1; omega)]
    simp only [wst, upto_succ]
    congr 1
theorem wait2 (m : Nat) : sentE (wst m m) ((m : Int) + 1) = 7 ∧ sent (wst m m) ((m : Int) + 1) = wst m m := by
  have hok : sentOk (wst m m) ((m : Int) + 1) = false := by
    simp [sentOk, may, wst, upto_length]
  exact ⟨by rw [sentE, hok]; rfl, by rw [sent, hok]; rfl⟩
theorem landed_upto (n : Nat) : (landed (upto (n + 1)) 1).length = n := by
  have h : (upto (n + 1)).countP (· < 1 + 1) = 1 := by
    induction n with
    | zero => simp [upto]
    | succ n ih => rw [upto_succ, List.countP_append, ih]; simp; omega
  unfold landed
  rw [h, List.length_drop, upto_length]
  omega
theorem wait3 {m : Nat} (h1 : 1 ≤ m) : ∃ l, acked (wst m m) 1 = ⟨1, 1, (m : Int) + 1, m, false, l, 0⟩ ∧ l.length + 1 = m := by
  obtain ⟨k, rfl⟩ : ∃ k, m = k + 1 := ⟨m - 1, by omega⟩
  refine ⟨landed (upto (k + 1)) 1, ?_, by rw [landed_upto]⟩
  have hx : max (((k + 1 : Nat) : Int) + 1) (max 0 1 + 1) = ((k + 1 : Nat) : Int) + 1 := by omega
  rw [acked, if_neg (by simp [within]), if_neg (by show ¬ ((1 : Int) = 0); omega), if_pos (by rfl)]
  show Pr.mk 1 (max 0 1) (max (((k + 1 : Nat) : Int) + 1) (max 0 1 + 1)) _ _ _ _ = _
  rw [hx]
  rfl
theorem wait4 {m : Nat} {l : List Int} (h1 : 1 ≤ m) (hm : m ≤ 64) (hl : l.length + 1 = m) : sentE ⟨1, 1, (m : Int) + 1, m, false, l, 0⟩ ((m : Int) + 1) = 0 ∧ ((sent ⟨1, 1, (m : Int) + 1, m, false, l, 0⟩ ((m : Int) + 1)).fly.length : Int) = m := by
  have hok : sentOk ⟨1, 1, (m : Int) + 1, m, false, l, 0⟩ ((m : Int) + 1) = true := by
    simp [sentOk, may]
    omega
  constructor
  · rw [sentE, hok]; rfl
  · rw [sent, hok, if_neg (by simp), if_neg (by show ¬ ((1 : Int) = 0); omega), if_pos (by show (m : Int) + 1 ≤ m + 1; omega)]
    simp
    omega

/-- the state in which the last one that was sent is acked -/
def fst_ (last m : Int) : Pr := ⟨1, last, last + 1, m, false, [], 0⟩
theorem fill0 {next m : Int} (h1 : 1 ≤ next) (h2 : next ≤ 1099511627776) : acked (fresh next m) (next - 1) = fst_ (next - 1) m := by
  have hw : within (next - 1) = true := by simp [within]; omega
  rw [acked, hw, if_neg (by simp), if_pos (by rfl)]
  show Pr.mk 1 (max 0 (next - 1)) (max next (max 0 (next - 1) + 1)) _ _ _ _ = Pr.mk _ _ _ _ _ _ _
  rw [show max 0 (next - 1) = next - 1 from by omega, show max next (next - 1 + 1) = next - 1 + 1 from by omega]
  rfl
theorem fill1 {last n m : Int} (h0 : 0 ≤ last) (h1 : 1 ≤ n) (h2 : last + n ≤ 1099511627775) (hm : 1 ≤ m) : sentE (fst_ last m) (last + n) = 0 ∧ sent (fst_ last m) (last + n) = ⟨1, last, last + n + 1, m, false, [last + n], 0⟩ := by
  have hok : sentOk (fst_ last m) (last + n) = true := by
    show (decide (((0 : Nat) : Int) < m) && decide (last + 1 - 1 ≤ last + n) && decide (last + n ≤ 1099511627775)) = true
    simp only [Bool.and_eq_true, decide_eq_true_eq]
    omega
  constructor
  · rw [sentE, hok]; rfl
  · rw [sent, hok, if_neg (by simp), if_neg (by show ¬ ((1 : Int) = 0); omega), if_pos (by show last + 1 ≤ last + n; omega)]
    rfl
theorem fill2 {last n m : Int} (h0 : 0 ≤ last) (h1 : 1 ≤ n) (h2 : last + n ≤ 1099511627775) : acked ⟨1, last, last + n + 1, m, false, [last + n], 0⟩ (last + n) = fst_ (last + n) m ∧ ackedB ⟨1, last, last + n + 1, m, false, [last + n], 0⟩ (last + n) = true := by
  have hw : within (last + n) = true := by simp [within]; omega
  constructor
  · rw [acked, hw, if_neg (by simp), if_neg (by show ¬ ((1 : Int) = 0); omega), if_pos (by rfl)]
    show Pr.mk 1 (max last (last + n)) (max (last + n + 1) (max last (last + n) + 1)) _ _ (landed [last + n] (last + n)) _ = Pr.mk _ _ _ _ _ _ _
    rw [show max last (last + n) = last + n from by omega, show max (last + n + 1) (last + n + 1) = last + n + 1 from by omega]
    congr 1
    unfold landed
    rw [List.countP_cons_of_pos (by simp; omega)]
    rfl
  · rw [ackedB, hw]
    simp
    omega
theorem may_fst {last m : Int} (hm : 1 ≤ m) : may (fst_ last m) = true := by
  show decide (((0 : Nat) : Int) < m) = true
  simp only [decide_eq_true_eq]
  omega
theorem inv_fst {last m : Int} (h0 : 0 ≤ last) (h1 : last ≤ 1099511627775) (h2 : 1 ≤ m) (h3 : m ≤ 64) : Inv (fst_ last m) where
  st := .inr (.inl rfl)
  m0 := h0
  mn := by show last < last + 1; omega
  nm := by show last + 1 ≤ _; omega
  w1 := h2
  w2 := h3
  len := by simp [fst_]; omega
  sorted := List.Pairwise.nil
  above := by simp [fst_]
  under := by simp [fst_]
  s0 := by simp [fst_]
  sm := by simp [fst_]
  idle := fun _ => rfl
end Go.Proofs.Ythglnipcddoblaa.Pg

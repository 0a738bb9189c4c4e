/- A peer in plain Lean: what each step makes of it, and what holds of it always. No program is named here. -/
namespace Go.Proofs.Ythglnipcddoblaa.Pg

structure Pr where
  state : Int
  mat : Int
  next : Int
  window : Int
  waits : Bool
  fly : List Int
  snap : Int

def may (p : Pr) : Bool := if p.state = 0 then !p.waits else if p.state = 1 then decide ((p.fly.length : Int) < p.window) else false
def probe (p : Pr) (n : Int) : Pr := { p with state := 0, next := n, waits := false, fly := [] }
def sentOk (p : Pr) (last : Int) : Bool := may p && decide (p.next - 1 ≤ last) && decide (last ≤ 1099511627775)
def sent (p : Pr) (last : Int) : Pr :=
  if sentOk p last = false then p else if p.state = 0 then { p with waits := true } else if p.next ≤ last then { p with next := last + 1, fly := p.fly ++ [last] } else p
def sentE (p : Pr) (last : Int) : Int := if sentOk p last = false then 7 else 0
def within (i : Int) : Bool := decide (0 ≤ i ∧ i ≤ 1099511627775)
def upTo (p : Pr) (i : Int) : Pr := { p with mat := max p.mat i, next := max p.next (max p.mat i + 1) }
def landed (l : List Int) (i : Int) : List Int := l.drop (l.countP (· < i + 1))
def acked (p : Pr) (i : Int) : Pr :=
  if within i = false then p else
  if p.state = 0 then { upTo p i with state := 1, waits := false, fly := [] } else
  if p.state = 1 then { upTo p i with fly := landed p.fly i } else
  if p.snap ≤ i then probe (upTo p i) (upTo p i).next else upTo p i
def ackedB (p : Pr) (i : Int) : Bool := within i && decide (p.mat < i)
def hintOf (h : Int) : Int := if 0 ≤ h ∧ h ≤ 1099511627776 then h else 0
def refused (p : Pr) (i h : Int) : Pr :=
  if p.state = 0 ∧ i = p.next - 1 then probe p (max (min i (hintOf h + 1)) (p.mat + 1)) else
  if p.state = 1 ∧ p.mat < i then probe p (p.mat + 1) else p
def refusedB (p : Pr) (i : Int) : Bool := decide ((p.state = 0 ∧ i = p.next - 1) ∨ (p.state = 1 ∧ p.mat < i))
def beat (p : Pr) : Pr :=
  if p.state = 0 then { p with waits := false } else if p.state = 1 ∧ p.window ≤ p.fly.length then { p with fly := p.fly.drop 1 } else p
def install (p : Pr) (i : Int) : Pr := if within i = false then p else { p with state := 2, snap := i, waits := false, fly := [] }
def installE (i : Int) : Int := if within i = false then 1 else 0
def over (p : Pr) (ok : Bool) : Pr := if p.state = 2 then probe p (if ok then max (p.mat + 1) (p.snap + 1) else p.mat + 1) else p
def overB (p : Pr) : Bool := decide (p.state = 2)

structure Inv (p : Pr) : Prop where
  st : p.state = 0 ∨ p.state = 1 ∨ p.state = 2
  m0 : 0 ≤ p.mat
  mn : p.mat < p.next
  nm : p.next ≤ 1099511627776
  w1 : 1 ≤ p.window
  w2 : p.window ≤ 64
  len : (p.fly.length : Int) ≤ p.window
  sorted : p.fly.Pairwise (· < ·)
  above : ∀ x ∈ p.fly, p.mat < x
  under : ∀ x ∈ p.fly, x < p.next
  s0 : 0 ≤ p.snap
  sm : p.snap ≤ 1099511627775
  idle : p.state ≠ 1 → p.fly = []

theorem Inv.le {p : Pr} (h : Inv p) : p.fly.Pairwise (· ≤ ·) := h.sorted.imp fun h => Int.le_of_lt h
theorem within_true {i : Int} (h : within i = true) : 0 ≤ i ∧ i ≤ 1099511627775 := by simpa [within] using h
theorem sentOk_true {p : Pr} {last : Int} (h : sentOk p last = true) : may p = true ∧ p.next - 1 ≤ last ∧ last ≤ 1099511627775 := by
  simp only [sentOk, Bool.and_eq_true, decide_eq_true_eq] at h
  exact ⟨h.1.1, h.1.2, h.2⟩
theorem may_stream {p : Pr} (h : may p = true) (h0 : p.state ≠ 0) : p.state = 1 ∧ (p.fly.length : Int) < p.window := by
  unfold may at h
  rw [if_neg h0] at h
  split at h
  · rename_i h1; exact ⟨h1, by simpa using h⟩
  · cases h
theorem inv_new {next window : Int} (h1 : 1 ≤ next) (h2 : next ≤ 1099511627776) (h3 : 1 ≤ window) (h4 : window ≤ 64) : Inv ⟨0, 0, next, window, false, [], 0⟩ where
  st := .inl rfl
  m0 := by simp
  mn := by show 0 < next; omega
  nm := h2
  w1 := h3
  w2 := h4
  len := by simp; omega
  sorted := List.Pairwise.nil
  above := by simp
  under := by simp
  s0 := by simp
  sm := by simp
  idle := fun _ => rfl
theorem inv_probe {p : Pr} (h : Inv p) {n : Int} (h1 : p.mat < n) (h2 : n ≤ 1099511627776) : Inv (probe p n) where
  st := .inl rfl
  m0 := h.m0
  mn := h1
  nm := h2
  w1 := h.w1
  w2 := h.w2
  len := by have := h.w1; simp [probe]; omega
  sorted := List.Pairwise.nil
  above := by simp [probe]
  under := by simp [probe]
  s0 := h.s0
  sm := h.sm
  idle := fun _ => rfl
theorem inv_sent {p : Pr} (h : Inv p) (last : Int) : Inv (sent p last) := by
  unfold sent
  cases hok : sentOk p last
  · simpa using h
  · obtain ⟨h1, h2, h3⟩ := sentOk_true hok
    rw [if_neg (by simp)]
    split
    · exact ⟨h.st, h.m0, h.mn, h.nm, h.w1, h.w2, h.len, h.sorted, h.above, h.under, h.s0, h.sm, h.idle⟩
    · rename_i h0
      obtain ⟨h4, h5⟩ := may_stream h1 h0
      split
      · rename_i h6
        have hmn := h.mn
        refine ⟨h.st, h.m0, by show p.mat < last + 1; omega, by show last + 1 ≤ _; omega, h.w1, h.w2, by show ((p.fly ++ [last]).length : Int) ≤ p.window; simp; omega, ?_, ?_, ?_, h.s0, h.sm, fun hn => absurd h4 hn⟩
        · refine List.pairwise_append.2 ⟨h.sorted, by simp, fun x hx y hy => ?_⟩
          simp at hy
          subst hy
          have := h.under x hx
          omega
        · intro x hx
          rcases List.mem_append.1 hx with hx | hx
          · exact h.above x hx
          · simp at hx
            subst hx
            show p.mat < x
            omega
        · intro x hx
          rcases List.mem_append.1 hx with hx | hx
          · have := h.under x hx
            show x < last + 1
            omega
          · simp at hx
            subst hx
            show x < x + 1
            omega
      · exact h
theorem inv_upTo {p : Pr} (h : Inv p) {i : Int} (hi : within i = true) (hf : ∀ x ∈ p.fly, i < x) : Inv (upTo p i) := by
  have := within_true hi
  have h1 := h.m0
  have h2 := h.mn
  have h3 := h.nm
  refine ⟨h.st, by show 0 ≤ max p.mat i; omega, by show max p.mat i < max p.next (max p.mat i + 1); omega, by show max p.next (max p.mat i + 1) ≤ _; omega, h.w1, h.w2, h.len, h.sorted, fun x hx => ?_, fun x hx => ?_, h.s0, h.sm, h.idle⟩
  · have a := hf x hx
    have b := h.above x hx
    show max p.mat i < x
    omega
  · have b := h.under x hx
    show x < max p.next (max p.mat i + 1)
    omega
theorem inv_less {p : Pr} (h : Inv p) {l : List Int} (hl : l.Sublist p.fly) (s : Int) (hs : s = 0 ∨ s = 1 ∨ s = 2) (hn : s ≠ 1 → l = []) (b : Bool) : Inv { p with fly := l, state := s, waits := b } := by
  refine ⟨hs, h.m0, h.mn, h.nm, h.w1, h.w2, ?_, h.sorted.sublist hl, fun x hx => h.above x (hl.mem hx), fun x hx => h.under x (hl.mem hx), h.s0, h.sm, hn⟩
  have := hl.length_le
  have := h.len
  show (l.length : Int) ≤ p.window
  omega
theorem countP_split : ∀ (l : List Int) (i : Int), l.Pairwise (· < ·) → ∀ x ∈ l.drop (l.countP (· < i)), i ≤ x := by
  intro l i
  induction l with
  | nil => intro _ x hx; simp at hx
  | cons a r ih =>
    intro h x hx
    rw [List.pairwise_cons] at h
    by_cases ha : a < i
    · rw [List.countP_cons_of_pos (by simpa using ha), List.drop_succ_cons] at hx
      exact ih h.2 x hx
    · have h0 : r.countP (· < i) = 0 := by
        rw [List.countP_eq_zero]
        intro y hy
        have := h.1 y hy
        simp
        omega
      rw [List.countP_cons_of_neg (by simpa using ha), h0, List.drop_zero] at hx
      rcases List.mem_cons.1 hx with rfl | hx
      · omega
      · have := h.1 x hx
        omega
theorem landed_above {l : List Int} {i : Int} (h : l.Pairwise (· < ·)) : ∀ x ∈ landed l i, i < x := fun x hx => by
  have := countP_split l (i + 1) h x hx
  omega
theorem inv_acked {p : Pr} (h : Inv p) (i : Int) : Inv (acked p i) := by
  unfold acked
  cases hi : within i
  · simpa using h
  · rw [if_neg (by simp)]
    split
    · have := inv_upTo (i := i) (inv_less h (List.nil_sublist _) p.state h.st (fun _ => rfl) p.waits) hi (by simp)
      exact inv_less this (List.nil_sublist _) 1 (.inr (.inl rfl)) (fun _ => rfl) false
    · split
      · rename_i hs1
        exact inv_upTo (i := i) (inv_less h (l := landed p.fly i) (List.drop_sublist _ _) p.state h.st (fun hn => absurd hs1 hn) p.waits) hi (landed_above h.sorted)
      · rename_i hs0 hs1
        have h1 := inv_upTo (i := i) h hi (by rw [h.idle hs1]; simp)
        split
        · exact inv_probe h1 h1.mn h1.nm
        · exact h1
theorem hintOf_bd (x : Int) : 0 ≤ hintOf x ∧ hintOf x ≤ 1099511627776 := by unfold hintOf; split <;> omega
theorem inv_refused {p : Pr} (h : Inv p) (i x : Int) : Inv (refused p i x) := by
  have hh := hintOf_bd x
  have h1 := h.mn
  have h2 := h.nm
  have h3 := h.m0
  unfold refused
  split
  · exact inv_probe h (by omega) (by omega)
  · split
    · exact inv_probe h (by omega) (by omega)
    · exact h
theorem inv_beat {p : Pr} (h : Inv p) : Inv (beat p) := by
  unfold beat
  split
  · exact inv_less h (List.Sublist.refl _) p.state h.st h.idle false
  · split
    · rename_i hs
      exact inv_less h (List.drop_sublist _ _) p.state h.st (fun hn => absurd hs.1 hn) p.waits
    · exact h
theorem inv_install {p : Pr} (h : Inv p) (i : Int) : Inv (install p i) := by
  unfold install
  cases hi : within i
  · simpa using h
  · rw [if_neg (by simp)]
    have := within_true hi
    have h1 := inv_less h (List.nil_sublist _) 2 (.inr (.inr rfl)) (fun _ => rfl) false
    exact ⟨h1.st, h1.m0, h1.mn, h1.nm, h1.w1, h1.w2, h1.len, h1.sorted, h1.above, h1.under, this.1, this.2, h1.idle⟩
theorem inv_over {p : Pr} (h : Inv p) (ok : Bool) : Inv (over p ok) := by
  have h1 := h.mn
  have h2 := h.nm
  have h3 := h.sm
  unfold over
  split
  · cases ok
    · exact inv_probe h (by simp; omega) (by simp; omega)
    · exact inv_probe h (by simp; omega) (by simp; omega)
  · exact h

/-- what may never fall -/
theorem mat_sent (p : Pr) (i : Int) : (sent p i).mat = p.mat := by unfold sent; split <;> (try split) <;> (try split) <;> rfl
theorem mat_acked (p : Pr) (i : Int) : p.mat ≤ (acked p i).mat := by
  unfold acked
  split
  · exact Int.le_refl _
  · split
    · show p.mat ≤ max p.mat i; omega
    · split
      · show p.mat ≤ max p.mat i; omega
      · split <;> (show p.mat ≤ max p.mat i; omega)
theorem mat_refused (p : Pr) (i h : Int) : (refused p i h).mat = p.mat := by unfold refused; split <;> (try split) <;> rfl
theorem mat_beat (p : Pr) : (beat p).mat = p.mat := by unfold beat; split <;> (try split) <;> rfl
theorem mat_install (p : Pr) (i : Int) : (install p i).mat = p.mat := by unfold install; split <;> rfl
theorem mat_over (p : Pr) (ok : Bool) : (over p ok).mat = p.mat := by unfold over; split <;> rfl
theorem win_sent (p : Pr) (i : Int) : (sent p i).window = p.window := by unfold sent; split <;> (try split) <;> (try split) <;> rfl
theorem win_acked (p : Pr) (i : Int) : (acked p i).window = p.window := by unfold acked; split <;> (try split) <;> (try split) <;> (try split) <;> rfl
theorem win_refused (p : Pr) (i h : Int) : (refused p i h).window = p.window := by unfold refused; split <;> (try split) <;> rfl
theorem win_beat (p : Pr) : (beat p).window = p.window := by unfold beat; split <;> (try split) <;> rfl
theorem win_install (p : Pr) (i : Int) : (install p i).window = p.window := by unfold install; split <;> rfl
theorem win_over (p : Pr) (ok : Bool) : (over p ok).window = p.window := by unfold over; split <;> rfl
end Go.Proofs.Ythglnipcddoblaa.Pg

/- The check sum in plain Lean: the step on 32 bits is linear and undoes itself, so sums of parts, of texts laid over one another and of bursts come out as the statements say. No program is named here. -/
namespace Go.Proofs.Ytlceembcehokoaa.CrcM

def poly : BitVec 32 := 2197175160#32
def step (r : BitVec 32) : BitVec 32 := (r >>> 1) ^^^ (if r.getLsbD 0 then poly else 0#32)

def Lin (f : BitVec 32 → BitVec 32) : Prop := ∀ a b, f (a ^^^ b) = f a ^^^ f b
theorem Lin.zero {f : BitVec 32 → BitVec 32} (h : Lin f) : f 0#32 = 0#32 := by
  have := h 0#32 0#32
  simpa using this
theorem lin_step : Lin step := by
  intro a b
  unfold step
  rw [BitVec.ushiftRight_xor_distrib, BitVec.getLsbD_xor]
  have e : (a >>> 1 ^^^ poly) ^^^ (b >>> 1 ^^^ poly) = (a >>> 1 ^^^ b >>> 1) ^^^ (poly ^^^ poly) := by ac_rfl
  have e2 : (a >>> 1) ^^^ (b >>> 1 ^^^ poly) = (a >>> 1 ^^^ b >>> 1) ^^^ poly := by ac_rfl
  have e3 : (a >>> 1 ^^^ poly) ^^^ (b >>> 1) = (a >>> 1 ^^^ b >>> 1) ^^^ poly := by ac_rfl
  cases a.getLsbD 0 <;> cases b.getLsbD 0
  · simp
  · simp [e2]
  · simp [e3]
  · rw [BitVec.xor_self] at e
    simp only [if_pos, Bool.true_xor, Bool.not_true, Bool.false_eq_true, if_false]
    rw [e]
theorem lin_id : Lin id := fun _ _ => rfl
theorem Lin.comp {f g : BitVec 32 → BitVec 32} (hf : Lin f) (hg : Lin g) : Lin (fun x => f (g x)) := fun a b => by show f (g (a ^^^ b)) = _; rw [hg, hf]

/-- f done n times -/
def it (f : BitVec 32 → BitVec 32) : Nat → BitVec 32 → BitVec 32
  | 0, r => r
  | n + 1, r => it f n (f r)
theorem it_zero (f : BitVec 32 → BitVec 32) (r : BitVec 32) : it f 0 r = r := rfl
theorem it_one (f : BitVec 32 → BitVec 32) (n : Nat) (r : BitVec 32) : it f (n + 1) r = it f n (f r) := rfl
theorem it_add (f : BitVec 32 → BitVec 32) (m n : Nat) (r : BitVec 32) : it f (m + n) r = it f n (it f m r) := by
  induction m generalizing r with
  | zero => simp [it]
  | succ m ih => rw [Nat.add_right_comm]; exact ih (f r)
theorem it_succ' (f : BitVec 32 → BitVec 32) (n : Nat) (r : BitVec 32) : it f (n + 1) r = f (it f n r) := by
  rw [it_add]; rfl
theorem lin_it {f : BitVec 32 → BitVec 32} (hf : Lin f) (n : Nat) : Lin (it f n) := by
  induction n with
  | zero => exact fun _ _ => rfl
  | succ n ih => intro a b; show it f n (f (a ^^^ b)) = _; rw [hf, ih]; rfl
theorem it_it (n m : Nat) (r : BitVec 32) : it (it step n) m r = it step (n * m) r := by
  induction m generalizing r with
  | zero => rfl
  | succ m ih => show it (it step n) m (it step n r) = _; rw [ih, Nat.mul_succ, Nat.add_comm, it_add]

/-- what a matrix's rows become: the numbers of those rows whose bit is set, laid over one another -/
def comb (g : Nat → BitVec 32) (r : BitVec 32) : Nat → BitVec 32
  | 0 => 0#32
  | k + 1 => comb g r k ^^^ (if r.getLsbD k then g k else 0#32)
def bit (i : Nat) : BitVec 32 := 1#32 <<< i
theorem bit_lsb (i j : Nat) (hi : i < 32) : (bit i).getLsbD j = decide (j = i) := by
  unfold bit
  rw [BitVec.getLsbD_shiftLeft, BitVec.getLsbD_one]
  by_cases h : j = i
  · subst h; simp [hi]
  · simp [h]; omega
theorem comb_bit (r : BitVec 32) (k : Nat) (hk : k ≤ 32) (j : Nat) : (comb bit r k).getLsbD j = (decide (j < k) && r.getLsbD j) := by
  induction k with
  | zero => simp [comb]
  | succ k ih =>
    rw [comb, BitVec.getLsbD_xor, ih (by omega)]
    by_cases hr : r.getLsbD k
    · rw [if_pos hr, bit_lsb k j (by omega)]
      by_cases hj : j = k
      · subst hj; simp [hr]
      · have : decide (j < k + 1) = decide (j < k) := by simp; omega
        simp [hj, this]
    · rw [if_neg hr]
      by_cases hj : j = k
      · subst hj; simp at hr; simp [hr]
      · have : decide (j < k + 1) = decide (j < k) := by simp; omega
        simp [this]
theorem comb_self (r : BitVec 32) : comb bit r 32 = r := by
  apply BitVec.eq_of_getLsbD_eq
  intro i hi
  rw [comb_bit r 32 (Nat.le_refl _)]
  simp [hi]
theorem comb_lin {f : BitVec 32 → BitVec 32} (hf : Lin f) (g : Nat → BitVec 32) (r : BitVec 32) (k : Nat) : f (comb g r k) = comb (fun i => f (g i)) r k := by
  induction k with
  | zero => exact hf.zero
  | succ k ih =>
    rw [comb, hf, ih, comb]
    split
    · rfl
    · rw [hf.zero]
theorem comb_of_lin {f : BitVec 32 → BitVec 32} (hf : Lin f) (r : BitVec 32) : comb (fun i => f (bit i)) r 32 = f r := by
  rw [← comb_lin hf, comb_self]

/-! ### shifted numbers -/
theorem step_shl (h : BitVec 32) (k : Nat) (hk : k + 1 ≤ 8) (hh : h.toNat < 2 ^ 24) : step (h <<< (k + 1)) = h <<< k := by
  unfold step
  have h0 : (h <<< (k + 1)).getLsbD 0 = false := by simp
  rw [h0]
  simp only [Bool.false_eq_true, if_false, BitVec.xor_zero]
  apply BitVec.eq_of_toNat_eq
  rw [BitVec.toNat_ushiftRight, BitVec.toNat_shiftLeft, BitVec.toNat_shiftLeft, Nat.shiftLeft_eq, Nat.shiftLeft_eq, Nat.shiftRight_eq_div_pow]
  have hk2 : 2 ^ (k + 1) ≤ 2 ^ 8 := Nat.pow_le_pow_right (by omega) hk
  have hk3 : 2 ^ k ≤ 2 ^ 8 := Nat.pow_le_pow_right (by omega) (by omega)
  have hx : h.toNat * 2 ^ (k + 1) < 2 ^ 32 := Nat.lt_of_le_of_lt (Nat.mul_le_mul_left _ hk2) (by omega)
  have hy : h.toNat * 2 ^ k < 2 ^ 32 := Nat.lt_of_le_of_lt (Nat.mul_le_mul_left _ hk3) (by omega)
  rw [Nat.mod_eq_of_lt hx, Nat.mod_eq_of_lt hy, Nat.pow_succ, ← Nat.mul_assoc]
  omega
theorem step8_shl (h : BitVec 32) (hh : h.toNat < 2 ^ 24) : it step 8 (h <<< 8) = h := by
  have e : ∀ k, k ≤ 8 → it step k (h <<< 8) = h <<< (8 - k) := by
    intro k
    induction k with
    | zero => intro _; rfl
    | succ k ih =>
      intro hk
      rw [it_succ', ih (by omega), show 8 - k = (8 - (k + 1)) + 1 by omega, step_shl h _ (by omega) hh]
  have := e 8 (Nat.le_refl _)
  simpa using this

theorem split8 (r : BitVec 32) : ((r >>> 8) <<< 8) ^^^ (r &&& 255#32) = r := by
  apply BitVec.eq_of_getLsbD_eq
  intro i hi
  have h255 : (255#32).getLsbD i = decide (i < 8) := by
    have : ∀ i : Fin 32, (255#32).getLsbD i.1 = decide (i.1 < 8) := by decide
    exact this ⟨i, hi⟩
  rw [BitVec.getLsbD_xor, BitVec.getLsbD_shiftLeft, BitVec.getLsbD_ushiftRight, BitVec.getLsbD_and, h255]
  by_cases h8 : i < 8
  · simp [h8, hi]
  · simp [h8, hi, show 8 + (i - 8) = i by omega]
theorem shr8_lt (r : BitVec 32) : (r >>> 8).toNat < 2 ^ 24 := by
  rw [BitVec.toNat_ushiftRight, Nat.shiftRight_eq_div_pow]
  have := r.isLt
  omega
/-- a table of what each byte does serves for whole numbers -/
theorem step8_table (r : BitVec 32) : it step 8 r = (r >>> 8) ^^^ it step 8 (r &&& 255#32) := by
  conv => lhs; rw [← split8 r]
  rw [lin_it lin_step, step8_shl _ (shr8_lt r)]

theorem it8_eq (f : BitVec 32 → BitVec 32) : (fun x => (fun x => (fun x => f (f x)) ((fun x => f (f x)) x)) ((fun x => (fun x => f (f x)) ((fun x => f (f x)) x)) x)) = it f 8 := rfl
attribute [irreducible] it
/-! ### sums -/
def ext (c : UInt8) : BitVec 32 := BitVec.ofNat 32 c.toNat
def upd (r : BitVec 32) (c : UInt8) : BitVec 32 := it step 8 (r ^^^ ext c)
def run (r : BitVec 32) (l : List UInt8) : BitVec 32 := l.foldl upd r
def add (s : BitVec 32) (l : List UInt8) : BitVec 32 := ~~~ run (~~~ s) l
def sum (l : List UInt8) : BitVec 32 := add 0#32 l
def join (a b : BitVec 32) (n : Nat) : BitVec 32 := it step (8 * n) a ^^^ b

theorem run_nil (r : BitVec 32) : run r [] = r := rfl
theorem run_cons (r : BitVec 32) (c : UInt8) (l : List UInt8) : run r (c :: l) = run (upd r c) l := rfl
theorem run_append (r : BitVec 32) (a b : List UInt8) : run r (a ++ b) = run (run r a) b := List.foldl_append
theorem run_snoc (r : BitVec 32) (a : List UInt8) (c : UInt8) : run r (a ++ [c]) = upd (run r a) c := run_append r a [c]
theorem add_append (s : BitVec 32) (a b : List UInt8) : add s (a ++ b) = add (add s a) b := by
  unfold add
  rw [run_append, BitVec.not_not]
theorem add_nil (s : BitVec 32) : add s [] = s := by unfold add; rw [run_nil, BitVec.not_not]
theorem ext_lt (c : UInt8) : (ext c).toNat < 256 := by
  unfold ext
  rw [BitVec.toNat_ofNat]
  have := c.toNat_lt
  omega
theorem ext_toNat (c : UInt8) : (ext c).toNat = c.toNat := by
  unfold ext
  rw [BitVec.toNat_ofNat]
  have := c.toNat_lt
  omega

attribute [irreducible] ext
theorem run_xor (r s : BitVec 32) (l : List UInt8) : run (r ^^^ s) l = run r l ^^^ it step (8 * l.length) s := by
  induction l generalizing r s with
  | nil => show r ^^^ s = r ^^^ it step 0 s; rw [it_zero]
  | cons c l ih =>
    rw [run_cons, run_cons]
    have : upd (r ^^^ s) c = upd r c ^^^ it step 8 s := by
      unfold upd
      rw [show r ^^^ s ^^^ ext c = (r ^^^ ext c) ^^^ s by ac_rfl, lin_it lin_step]
    rw [this, ih, List.length_cons, Nat.mul_succ, Nat.add_comm, it_add]
theorem not_eq_xor (x : BitVec 32) : ~~~ x = x ^^^ 4294967295#32 := by
  have : (4294967295#32) = BitVec.allOnes 32 := by decide
  rw [this, BitVec.xor_allOnes]
theorem sum_append (a b : List UInt8) : sum (a ++ b) = join (sum a) (sum b) b.length := by
  unfold sum join
  rw [add_append]
  generalize add 0#32 a = x
  unfold add
  have ex : ~~~ x = ~~~ 0#32 ^^^ x := by rw [not_eq_xor x, not_eq_xor 0#32, BitVec.zero_xor, BitVec.xor_comm]
  rw [ex, run_xor]
  generalize run (~~~ 0#32) b = R
  generalize it step (8 * b.length) x = I
  rw [not_eq_xor (R ^^^ I), not_eq_xor R]
  ac_rfl

/-! ### three texts laid over one another -/
def lay3 : List UInt8 → List UInt8 → List UInt8 → List UInt8
  | a :: l, b :: m, c :: n => (a ^^^ b ^^^ c) :: lay3 l m n
  | _, _, _ => []
theorem ext_xor (a b : UInt8) : ext (a ^^^ b) = ext a ^^^ ext b := by
  apply BitVec.eq_of_toNat_eq
  rw [BitVec.toNat_xor, ext_toNat, ext_toNat, ext_toNat]
  exact UInt8.toNat_xor a b
theorem run_lay3 (x y z : BitVec 32) : ∀ (l m n : List UInt8), l.length = m.length → m.length = n.length → run (x ^^^ y ^^^ z) (lay3 l m n) = run x l ^^^ run y m ^^^ run z n := by
  intro l
  induction l generalizing x y z with
  | nil =>
    intro m n h1 h2
    have hm : m = [] := List.eq_nil_of_length_eq_zero (by simpa using h1.symm)
    subst hm
    have hn : n = [] := List.eq_nil_of_length_eq_zero (by simpa using h2.symm)
    subst hn
    rfl
  | cons a l ih =>
    intro m n h1 h2
    match m, n, h1, h2 with
    | b :: m, c :: n, h1, h2 =>
      rw [lay3, run_cons, run_cons, run_cons, run_cons, ← ih (upd x a) (upd y b) (upd z c) m n (by simpa using h1) (by simpa using h2)]
      congr 1
      unfold upd
      rw [← lin_it lin_step, ← lin_it lin_step, ext_xor, ext_xor]
      congr 1
      ac_rfl
theorem sum_lay3 (l m n : List UInt8) (h1 : l.length = m.length) (h2 : m.length = n.length) : sum (lay3 l m n) = sum l ^^^ sum m ^^^ sum n := by
  unfold sum add
  have := run_lay3 (~~~ 0#32) (~~~ 0#32) (~~~ 0#32) l m n h1 h2
  have e : (~~~ 0#32) ^^^ (~~~ 0#32) ^^^ (~~~ 0#32) = ~~~ 0#32 := by decide
  rw [e] at this
  rw [this]
  generalize run (~~~ 0#32) l = a
  generalize run (~~~ 0#32) m = b
  generalize run (~~~ 0#32) n = c
  rw [not_eq_xor, not_eq_xor, not_eq_xor, not_eq_xor]
  have : 4294967295#32 = 4294967295#32 ^^^ 4294967295#32 ^^^ 4294967295#32 := by decide
  conv => lhs; rw [this]
  ac_rfl

/-! ### bursts -/
theorem step_zero {a : BitVec 32} (h : step a = 0#32) : a = 0#32 := by
  unfold step at h
  by_cases h0 : a.getLsbD 0
  · rw [if_pos h0] at h
    have h31 := congrArg (fun x : BitVec 32 => x.getLsbD 31) h
    simp at h31
    exact absurd h31 (by decide)
  · rw [if_neg h0] at h
    simp only [BitVec.xor_zero] at h
    apply BitVec.eq_of_getLsbD_eq
    intro i hi
    rcases i with _ | i
    · simpa using h0
    · have := congrArg (fun x : BitVec 32 => x.getLsbD i) h
      simpa [BitVec.getLsbD_ushiftRight, Nat.add_comm] using this
theorem xor_eq_zero' {a b : BitVec 32} : a ^^^ b = 0#32 ↔ a = b := by
  constructor
  · intro h
    have : a ^^^ b ^^^ b = 0#32 ^^^ b := by rw [h]
    rwa [BitVec.xor_assoc, BitVec.xor_self, BitVec.xor_zero, BitVec.zero_xor] at this
  · rintro rfl; exact BitVec.xor_self
theorem it_step_inj (n : Nat) {a b : BitVec 32} (h : it step n a = it step n b) : a = b := by
  have h0 : it step n (a ^^^ b) = 0#32 := by rw [lin_it lin_step, h, BitVec.xor_self]
  have z : ∀ n (x : BitVec 32), it step n x = 0#32 → x = 0#32 := by
    intro n
    induction n with
    | zero => intro x hx; rwa [it_zero] at hx
    | succ n ih => intro x hx; rw [it_one] at hx; exact step_zero (ih _ hx)
  exact xor_eq_zero'.1 (z n _ h0)
theorem upd_inj {a b : BitVec 32} {c : UInt8} (h : upd a c = upd b c) : a = b := by
  have := it_step_inj 8 h
  have h2 : a ^^^ ext c ^^^ ext c = b ^^^ ext c ^^^ ext c := by rw [this]
  simpa [BitVec.xor_assoc] using h2
theorem run_inj {a b : BitVec 32} (l : List UInt8) (h : run a l = run b l) : a = b := by
  induction l generalizing a b with
  | nil => exact h
  | cons c l ih => exact upd_inj (ih h)

/-- four bytes as one number, the lowest first -/
def le4 (a b c d : UInt8) : BitVec 32 := ext a ^^^ (ext b <<< 8) ^^^ (ext c <<< 16) ^^^ (ext d <<< 24)
theorem shl_lt (x : BitVec 32) (k m : Nat) (hx : x.toNat < 256) (hk : k + 8 ≤ m) (hm : m ≤ 24) : (x <<< k).toNat < 2 ^ 24 := by
  rw [BitVec.toNat_shiftLeft, Nat.shiftLeft_eq]
  have h2 : 2 ^ k ≤ 2 ^ 16 := Nat.pow_le_pow_right (by omega) (by omega)
  have : x.toNat * 2 ^ k ≤ 255 * 2 ^ 16 := Nat.mul_le_mul (by omega) h2
  have := Nat.mod_le (x.toNat * 2 ^ k) (2 ^ 32)
  omega
theorem push8 (x y : BitVec 32) (hy : y.toNat < 2 ^ 24) : it step 8 x ^^^ y = it step 8 (x ^^^ (y <<< 8)) := by
  rw [lin_it lin_step, step8_shl y hy]
theorem run4 (r : BitVec 32) (a b c d : UInt8) : run r [a, b, c, d] = it step 32 (r ^^^ le4 a b c d) := by
  have hb := ext_lt b
  have hc := ext_lt c
  have hd := ext_lt d
  have hc8 := shl_lt (ext c) 8 16 hc (by omega) (by omega)
  have hd8 := shl_lt (ext d) 8 16 hd (by omega) (by omega)
  have hd16 := shl_lt (ext d) 16 24 hd (by omega) (by omega)
  show it step 8 (it step 8 (it step 8 (it step 8 (r ^^^ ext a) ^^^ ext b) ^^^ ext c) ^^^ ext d) = _
  unfold le4
  generalize ext a = A
  generalize ext b = B at *
  generalize ext c = C at *
  generalize ext d = D at *
  rw [push8 (r ^^^ A) B (by omega), push8 _ C (by omega), push8 _ (C <<< 8) hc8, push8 _ D (by omega), push8 _ (D <<< 8) hd8]
  rw [← BitVec.shiftLeft_add C, ← BitVec.shiftLeft_add D, push8 _ (D <<< 16) hd16, ← BitVec.shiftLeft_add D]
  rw [← it_add, ← it_add, ← it_add]
  have e : ∀ x y z : BitVec 32, r ^^^ A ^^^ x ^^^ y ^^^ z = r ^^^ (A ^^^ x ^^^ y ^^^ z) := fun x y z => by ac_rfl
  rw [e]
/-- the four bytes of a number -/
def by0 (t : BitVec 32) : UInt8 := UInt8.ofNat (t.toNat % 256)
def by1 (t : BitVec 32) : UInt8 := UInt8.ofNat (t.toNat / 256 % 256)
def by2 (t : BitVec 32) : UInt8 := UInt8.ofNat (t.toNat / 65536 % 256)
def by3 (t : BitVec 32) : UInt8 := UInt8.ofNat (t.toNat / 16777216 % 256)
theorem ext_ofNat (n : Nat) (h : n < 256) : ext (UInt8.ofNat n) = BitVec.ofNat 32 n := by
  unfold ext
  congr 1
  rw [UInt8.toNat_ofNat']
  omega
theorem le4_by (t : BitVec 32) : le4 (by0 t) (by1 t) (by2 t) (by3 t) = t := by
  have hk : ∀ k, (BitVec.ofNat 32 (t.toNat / 2 ^ k % 256)) = (t >>> k) &&& 255#32 := by
    intro k
    apply BitVec.eq_of_toNat_eq
    rw [BitVec.toNat_ofNat, BitVec.toNat_and, BitVec.toNat_ushiftRight, Nat.shiftRight_eq_div_pow]
    have : (255#32).toNat = 2 ^ 8 - 1 := by decide
    rw [this, Nat.and_two_pow_sub_one_eq_mod]
    omega
  have h0 : ext (by0 t) = (t >>> 0) &&& 255#32 := by unfold by0; rw [ext_ofNat _ (by omega), ← hk 0]; simp
  have h1 : ext (by1 t) = (t >>> 8) &&& 255#32 := by unfold by1; rw [ext_ofNat _ (by omega), ← hk 8]
  have h2 : ext (by2 t) = (t >>> 16) &&& 255#32 := by unfold by2; rw [ext_ofNat _ (by omega), ← hk 16]
  have h3 : ext (by3 t) = (t >>> 24) &&& 255#32 := by unfold by3; rw [ext_ofNat _ (by omega), ← hk 24]
  unfold le4
  rw [h0, h1, h2, h3]
  apply BitVec.eq_of_getLsbD_eq
  intro i hi
  have h255 : ∀ j, (255#32).getLsbD j = decide (j < 8) := by
    intro j
    rcases Nat.lt_or_ge j 32 with h | h
    · have : ∀ i : Fin 32, (255#32).getLsbD i.1 = decide (i.1 < 8) := by decide
      exact this ⟨j, h⟩
    · rw [BitVec.getLsbD_of_ge _ _ h]; symm; simp; omega
  simp only [BitVec.getLsbD_xor, BitVec.getLsbD_and, BitVec.getLsbD_shiftLeft, BitVec.getLsbD_ushiftRight, h255]
  rcases (show i < 8 ∨ (8 ≤ i ∧ i < 16) ∨ (16 ≤ i ∧ i < 24) ∨ 24 ≤ i by omega) with h | h | h | h
  · have d0 : decide (i < 8) = true := by simp; omega
    have d1 : decide (i < 16) = true := by simp; omega
    have d2 : decide (i < 24) = true := by simp; omega
    simp only [d0, d1, d2, Bool.not_true, Bool.and_false, Bool.false_and, Bool.and_true, Bool.xor_false, Nat.zero_add]
  · have d0 : decide (i < 8) = false := by simp; omega
    have d1 : decide (i < 16) = true := by simp; omega
    have d2 : decide (i < 24) = true := by simp; omega
    have d3 : decide (i - 8 < 8) = true := by simp; omega
    have d4 : decide (i < 32) = true := by simp; omega
    have d5 : 8 + (i - 8) = i := by omega
    simp only [d0, d1, d2, d3, d4, d5, Bool.not_true, Bool.not_false, Bool.and_false, Bool.false_and, Bool.and_true, Bool.true_and, Bool.xor_false, Bool.false_xor]
  · have d0 : decide (i < 8) = false := by simp; omega
    have d1 : decide (i < 16) = false := by simp; omega
    have d2 : decide (i < 24) = true := by simp; omega
    have d3 : decide (i - 8 < 8) = false := by simp; omega
    have d3' : decide (i - 16 < 8) = true := by simp; omega
    have d4 : decide (i < 32) = true := by simp; omega
    have d5 : 16 + (i - 16) = i := by omega
    simp only [d0, d1, d2, d3, d3', d4, d5, Bool.not_true, Bool.not_false, Bool.and_false, Bool.false_and, Bool.and_true, Bool.true_and, Bool.xor_false, Bool.false_xor]
  · have d0 : decide (i < 8) = false := by simp; omega
    have d1 : decide (i < 16) = false := by simp; omega
    have d2 : decide (i < 24) = false := by simp; omega
    have d3 : decide (i - 8 < 8) = false := by simp; omega
    have d3' : decide (i - 16 < 8) = false := by simp; omega
    have d3'' : decide (i - 24 < 8) = true := by simp; omega
    have d4 : decide (i < 32) = true := by simp; omega
    have d5 : 24 + (i - 24) = i := by omega
    simp only [d0, d1, d2, d3, d3', d3'', d4, d5, Bool.not_false, Bool.and_false, Bool.and_true, Bool.true_and, Bool.xor_false, Bool.false_xor]
theorem le4_xor (a b c d a' b' c' d' : UInt8) : le4 (a ^^^ a') (b ^^^ b') (c ^^^ c') (d ^^^ d') = le4 a b c d ^^^ le4 a' b' c' d' := by
  unfold le4
  rw [ext_xor, ext_xor, ext_xor, ext_xor]
  generalize ext a = A
  generalize ext b = B
  generalize ext c = C
  generalize ext d = D
  generalize ext a' = A'
  generalize ext b' = B'
  generalize ext c' = C'
  generalize ext d' = D'
  rw [BitVec.shiftLeft_xor_distrib, BitVec.shiftLeft_xor_distrib, BitVec.shiftLeft_xor_distrib]
  generalize B <<< 8 = B
  generalize C <<< 16 = C
  generalize D <<< 24 = D
  generalize B' <<< 8 = B'
  generalize C' <<< 16 = C'
  generalize D' <<< 24 = D'
  ac_rfl
/-- texts that are unlike in four neighbouring bytes alone have unlike sums -/
theorem sum_burst (p q : List UInt8) (a b c d : UInt8) (t : BitVec 32) (ht : t ≠ 0#32) :
    sum (p ++ [a, b, c, d] ++ q) ≠ sum (p ++ [a ^^^ by0 t, b ^^^ by1 t, c ^^^ by2 t, d ^^^ by3 t] ++ q) := by
  intro h
  unfold sum add at h
  have h1 := congrArg (fun x => ~~~ x) h
  simp only [BitVec.not_not] at h1
  rw [run_append, run_append, run_append, run_append] at h1
  have h2 := run_inj q h1
  rw [run4, run4, le4_xor, le4_by] at h2
  have h3 := it_step_inj 32 h2
  apply ht
  have h4 : (run (~~~ 0#32) p ^^^ le4 a b c d) ^^^ (run (~~~ 0#32) p ^^^ le4 a b c d) = (run (~~~ 0#32) p ^^^ le4 a b c d) ^^^ (run (~~~ 0#32) p ^^^ (le4 a b c d ^^^ t)) := by rw [← h3]
  rw [BitVec.xor_self, ← BitVec.xor_assoc (run _ p), ← BitVec.xor_assoc, BitVec.xor_self, BitVec.zero_xor] at h4
  exact h4.symm
/-- the sum of bytes with their own sum behind -/
theorem sum_own (p : List UInt8) : sum (p ++ [by0 (sum p), by1 (sum p), by2 (sum p), by3 (sum p)]) = 1214729159#32 := by
  have e : ∀ r : BitVec 32, r ^^^ ~~~ r = 4294967295#32 := fun r => by rw [not_eq_xor, ← BitVec.xor_assoc, BitVec.xor_self, BitVec.zero_xor]
  unfold sum
  rw [add_append]
  unfold add
  rw [run4, le4_by, BitVec.not_not, e]
  decide +kernel
/-! ### what the table serves for -/
theorem ext_shr (c : UInt8) : ext c >>> 8 = 0#32 := by
  apply BitVec.eq_of_toNat_eq
  rw [BitVec.toNat_ushiftRight, Nat.shiftRight_eq_div_pow]
  have := ext_lt c
  have : (ext c).toNat / 2 ^ 8 = 0 := by omega
  rw [this]; rfl
theorem ext_and (c : UInt8) : ext c &&& 255#32 = ext c := by
  apply BitVec.eq_of_toNat_eq
  rw [BitVec.toNat_and]
  have h : (255#32).toNat = 2 ^ 8 - 1 := by decide
  rw [h, Nat.and_two_pow_sub_one_eq_mod]
  have := ext_lt c
  omega
theorem and_xor_right (a b c : BitVec 32) : (a ^^^ b) &&& c = (a &&& c) ^^^ (b &&& c) := by
  apply BitVec.eq_of_getLsbD_eq
  intro i _
  simp only [BitVec.getLsbD_and, BitVec.getLsbD_xor]
  cases a.getLsbD i <;> cases b.getLsbD i <;> cases c.getLsbD i <;> rfl
theorem upd_table (r : BitVec 32) (c : UInt8) : upd r c = (r >>> 8) ^^^ it step 8 ((r &&& 255#32) ^^^ ext c) := by
  unfold upd
  rw [step8_table, BitVec.ushiftRight_xor_distrib, ext_shr, BitVec.xor_zero, and_xor_right, ext_and]
end Go.Proofs.Ytlceembcehokoaa.CrcM

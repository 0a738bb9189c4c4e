/- Proved here, for the statement TopFairCardSaid: laws that its walk leans on. It holds with no condition. (Put together and shortened by a program out of many texts: ReadMath2.) -/
import Derived.Test.YtbeaoddjomdlcaaGreatDoorZ39
set_option linter.unusedVariables false
set_option linter.unusedSimpArgs false
set_option maxRecDepth 100000
set_option maxHeartbeats 64000000
namespace Go.Proofs.YtbeaoddjomdlcaaGreatDoor.ReadM
theorem val_eq : ∀ (d : List UInt8) (a : Nat), d.foldl (fun n b => n * 256 + b.toNat) a = FieldM.val d a
  | [], _ => rfl
  | b :: r, a => by
    rw [List.foldl_cons, val_eq r]
    rfl
theorem val_be_wid {n : Nat} (h : n < 18446744073709551616) : val (FieldM.be (FieldM.wid n) n) = n := by
  unfold val
  rw [val_eq]
  exact FieldM.val_be_wid h
theorem lean_be {n : Nat} (h : n < 18446744073709551616) : lean (FieldM.be (FieldM.wid n) n) = true := by
  cases hw : FieldM.wid n with
  | zero => rfl
  | succ k =>
    rw [FieldM.be_cons, lean]
    have hk := FieldM.wid_lt k n h
    have h1 : ¬ n < 256 ^ k := by rw [hk]; omega
    have h2 : n < 256 ^ (k + 1) := (FieldM.wid_lt (k + 1) n h).2 (by omega)
    have h3 : 0 < n / 256 ^ k := Nat.div_pos (by omega) (Nat.pow_pos (by omega))
    have h4 : n / 256 ^ k < 256 := by
      rw [Nat.div_lt_iff_lt_mul (Nat.pow_pos (by omega))]
      rw [Nat.pow_succ] at h2
      omega
    rw [UInt8.toNat_ofNat', Nat.mod_eq_of_lt h4, Nat.mod_eq_of_lt (by simpa using h4)]
    simpa using h3
theorem head_num {k : Nat} (h : k ≤ 8) : wid (UInt8.ofNat k) = k ∧ neg (UInt8.ofNat k) = false ∧ okHead (UInt8.ofNat k) = true := by
  have e : (UInt8.ofNat k).toNat = k := by rw [UInt8.toNat_ofNat']; omega
  have hw : wid (UInt8.ofNat k) = k := by unfold wid; rw [e, if_neg (by omega)]
  have hn : neg (UInt8.ofNat k) = false := by unfold neg; rw [e]; simp; omega
  refine ⟨hw, hn, ?_⟩
  unfold okHead
  rw [hw, hn, e]
  simp
  omega
theorem dec_num {n : Nat} (h : n < 18446744073709551616) (rest : List UInt8) : dec (FieldM.num n ++ rest) = some (n, false, rest) := by
  obtain ⟨h1, h2, h3⟩ := head_num (FieldM.wid_le h)
  have ht : (FieldM.be (FieldM.wid n) n ++ rest).take (FieldM.wid n) = FieldM.be (FieldM.wid n) n := by
    rw [List.take_append_of_le_length (by rw [FieldM.be_length]; omega), List.take_of_length_le (by rw [FieldM.be_length]; omega)]
  have hd : (FieldM.be (FieldM.wid n) n ++ rest).drop (FieldM.wid n) = rest := by
    rw [List.drop_append_of_le_length (by rw [FieldM.be_length]; omega), List.drop_of_length_le (by rw [FieldM.be_length]; omega), List.nil_append]
  unfold FieldM.num
  rw [List.cons_append, dec_some h3 (by rw [h1, List.length_append, FieldM.be_length]; omega) (by rw [h1, ht]; exact lean_be h), h1, ht, hd, h2, val_be_wid h]
theorem wid_val {d : List UInt8} (hl : d.length ≤ 8) (h : lean d = true) : FieldM.wid (val d) = d.length ∧ FieldM.be d.length (val d) = d := by
  have h8 : val d < 18446744073709551616 := by
    have h1 := val_lt d
    have h2 : 256 ^ d.length ≤ 256 ^ 8 := Nat.pow_le_pow_right (by omega) hl
    omega
  constructor
  · have h1 := (FieldM.wid_lt d.length (val d) h8).1 (val_lt d)
    cases d with
    | nil => simpa using h1
    | cons b r =>
      have hb : 0 < b.toNat := by simpa [lean] using h
      have h2 : 256 ^ r.length ≤ val (b :: r) := by
        unfold val
        rw [val_eq]
        have : ∀ (r : List UInt8) (a : Nat), a * 256 ^ r.length ≤ FieldM.val r a := by
          intro r
          induction r with
          | nil => intro a; simp [FieldM.val]
          | cons c r ih =>
            intro a
            have h3 := ih (a * 256 + c.toNat)
            have h4 : a * 256 ^ (c :: r).length ≤ (a * 256 + c.toNat) * 256 ^ r.length := by
              rw [List.length_cons, Nat.pow_succ, Nat.mul_comm (256 ^ r.length) 256, ← Nat.mul_assoc]
              exact Nat.mul_le_mul_right _ (by omega)
            exact Nat.le_trans h4 h3
        have h5 := this r (0 * 256 + b.toNat)
        have h6 : 1 * 256 ^ r.length ≤ (0 * 256 + b.toNat) * 256 ^ r.length := Nat.mul_le_mul_right _ (by omega)
        have h7 : FieldM.val (b :: r) 0 = FieldM.val r (0 * 256 + b.toNat) := rfl
        omega
      have h3 : ¬ FieldM.wid (val (b :: r)) ≤ r.length := by
        rw [← FieldM.wid_lt r.length _ h8]
        omega
      simp only [List.length_cons] at h1 ⊢
      omega
  · clear h hl h8
    have : ∀ n (d : List UInt8), d.length = n → FieldM.be n (val d) = d := by
      intro n
      induction n with
      | zero => intro d hd; rw [List.eq_nil_of_length_eq_zero hd]; rfl
      | succ n ih =>
        intro d hd
        obtain ⟨e, b, rfl⟩ : ∃ e b, d = e ++ [b] := ⟨d.dropLast, d.getLast (by intro h; rw [h] at hd; simp at hd), by rw [List.dropLast_concat_getLast]⟩
        rw [FieldM.be, val_snoc]
        have hb := b.toNat_lt
        rw [show (val e * 256 + b.toNat) / 256 = val e by omega, show (val e * 256 + b.toNat) % 256 = b.toNat by omega, ih e (by simpa using hd)]
        simp
    exact this _ d rfl
theorem dec_inv {bs : List UInt8} {n : Nat} {m : Bool} {rest : List UInt8} (h : dec bs = some (n, m, rest)) : bs = UInt8.ofNat (FieldM.wid n + if m then 16 else 0) :: FieldM.be (FieldM.wid n) n ++ rest := by
  cases bs with
  | nil => cases h
  | cons b r =>
    rw [dec] at h
    split at h
    · rename_i hh
      obtain ⟨h1, h2, h3⟩ := hh
      injection h with h
      injection h with e1 h
      injection h with e2 e3
      have hl : (r.take (wid b)).length = wid b := by rw [List.length_take]; omega
      obtain ⟨w1, w2⟩ := wid_val (d := r.take (wid b)) (by rw [hl]; exact wid_le h1) h3
      rw [hl] at w1 w2
      rw [e1] at w1 w2
      rw [w1, w2, List.cons_append, ← e3, List.take_append_drop]
      congr 1
      have hb := b.toNat_lt
      apply UInt8.toNat.inj
      rw [UInt8.toNat_ofNat', ← e2]
      unfold neg wid
      by_cases h16 : 16 ≤ b.toNat
      · rw [if_pos h16, decide_eq_true h16]
        simp only [if_true]
        omega
      · rw [if_neg h16, decide_eq_false h16]
        simp only [Bool.false_eq_true, if_false]
        omega
    · cases h
theorem numRes_num {n most : Nat} (h : n < 18446744073709551616) (hm : n ≤ most) (rest : List UInt8) : numRes most (FieldM.num n ++ rest) = some (n, rest) := by
  rw [numRes, dec_num h]
  exact if_pos hm
theorem textRes_text {b : List UInt8} {most : Int} (h : b.length < 18446744073709551616) (hm : (b.length : Int) ≤ most) (rest : List UInt8) : textRes most (FieldM.text b ++ rest) = some (b, rest) := by
  unfold FieldM.text
  rw [List.append_assoc, textRes, dec_num h]
  have ht : (b ++ rest).take b.length = b := by rw [List.take_append_of_le_length (Nat.le_refl _), List.take_of_length_le (Nat.le_refl _)]
  have hd : (b ++ rest).drop b.length = rest := by rw [List.drop_append_of_le_length (Nat.le_refl _), List.drop_of_length_le (Nat.le_refl _), List.nil_append]
  simp only [ht, hd]
  exact if_pos ⟨by omega, hm, by rw [List.length_append]; omega⟩
end Go.Proofs.YtbeaoddjomdlcaaGreatDoor.ReadM

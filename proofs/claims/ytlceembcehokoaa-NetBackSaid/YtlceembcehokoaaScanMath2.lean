/- Plain laws of records and scans. No program is named here. -/
import Derived.Test.YtlceembcehokoaaScanMath
namespace Go.Proofs.Ytlceembcehokoaa.Rc
set_option maxRecDepth 100000

theorem num_w4 (n : Nat) (hn : n < 4294967296) : num (w4 n) = n := by
  simp only [num, w4, List.foldl_cons, List.foldl_nil, UInt8.toNat_ofNat']
  omega
theorem rec_take4 (x t : List UInt8) : (rec x ++ t).take 4 = w4 x.length := by
  simp [rec, w4]
theorem rec_drop8 (x t : List UInt8) : (rec x ++ t).drop 8 = x ++ t := by
  simp [rec, w4]
theorem scan1_rec (x t : List UInt8) (h : x.length ≤ 65536) : scan1 (rec x ++ t) = some x := by
  unfold scan1
  have hn : num ((rec x ++ t).take 4) = x.length := by rw [rec_take4, num_w4 _ (by omega)]
  have hl : (rec x ++ t).length = x.length + 8 + t.length := by rw [List.length_append, rec_len]
  have hx : ((rec x ++ t).drop 8).take x.length = x := by rw [rec_drop8, List.take_append_of_le_length (Nat.le_refl _), List.take_length]
  rw [hn, hx, if_pos]
  refine ⟨by omega, h, by omega, ?_⟩
  rw [List.take_append_of_le_length (by rw [rec_len]; omega), List.take_of_length_le (by rw [rec_len]; omega)]
theorem scan_rec (x t : List UInt8) (h : x.length ≤ 65536) : scan (rec x ++ t) = (x :: (scan t).1, 8 + x.length + (scan t).2) := by
  rw [scan_some (scan1_rec x t h)]
  rw [show (rec x ++ t).drop (8 + x.length) = t from by rw [List.drop_append_of_le_length (by rw [rec_len]; omega), List.drop_of_length_le (by rw [rec_len]; omega), List.nil_append]]
/-- records one behind the other -/
def recs (l : List (List UInt8)) : List UInt8 := l.flatMap rec
theorem recs_cons (x : List UInt8) (l : List (List UInt8)) : recs (x :: l) = rec x ++ recs l := by simp [recs]
theorem recs_snoc (l : List (List UInt8)) (x : List UInt8) : recs (l ++ [x]) = recs l ++ rec x := by simp [recs]
theorem scan_recs (t : List UInt8) : ∀ (l : List (List UInt8)), (∀ x ∈ l, x.length ≤ 65536) → scan (recs l ++ t) = (l ++ (scan t).1, (recs l).length + (scan t).2)
  | [], _ => by simp [recs]
  | x :: l, h => by
    rw [recs_cons, List.append_assoc, scan_rec x _ (h x (by simp)), scan_recs t l (fun y hy => h y (by simp [hy]))]
    rw [List.length_append, rec_len]
    simp only [List.cons_append]
    congr 1
    omega
/-- a record that is cut off is none -/
theorem scan1_cut (x : List UInt8) (m : Nat) (h : x.length ≤ 65536) (hm : m < 8 + x.length) : scan1 ((rec x).take m) = none := by
  unfold scan1
  rw [if_neg]
  rintro ⟨h1, h2, h3, _⟩
  have hl : ((rec x).take m).length ≤ m := by rw [List.length_take]; omega
  have hn : num (((rec x).take m).take 4) = x.length := by
    rw [List.take_take, Nat.min_eq_left (by omega)]
    have := rec_take4 x []
    rw [List.append_nil] at this
    rw [this, num_w4 _ (by omega)]
  omega
/-- what was told, put again, are the bytes that were gone through -/
theorem recs_scanF : ∀ (f : Nat) (bs : List UInt8), recs (scanF f bs).1 = bs.take (scanF f bs).2 ∧ (scanF f bs).2 ≤ bs.length := by
  intro f
  induction f with
  | zero => intro bs; simp [scanF, recs]
  | succ f ih =>
    intro bs
    rw [scanF]
    cases hs : scan1 bs with
    | none => simp [recs]
    | some x =>
      have h1 := scan1_len hs
      obtain ⟨h2, h3⟩ := ih (bs.drop (8 + x.length))
      rw [List.length_drop] at h3
      refine ⟨?_, by simp only; omega⟩
      simp only
      rw [recs_cons, h2, h1.2.2]
      exact (List.take_add (l := bs) (i := 8 + x.length)).symm
theorem recs_scan (bs : List UInt8) : recs (scan bs).1 = bs.take (scan bs).2 ∧ (scan bs).2 ≤ bs.length := recs_scanF _ _
theorem w4_inj {m n : Nat} (hm : m < 4294967296) (hn : n < 4294967296) (h : w4 m = w4 n) : m = n := by
  rw [← num_w4 m hm, h, num_w4 n hn]
/-- a record whose bytes are not those of its sum is none -/
theorem scan1_other (x y t : List UInt8) (hl : y.length = x.length) (h : x.length ≤ 65536) (hs : CrcM.sum (w4 x.length ++ y) ≠ CrcM.sum (w4 x.length ++ x)) :
    scan1 (w4 x.length ++ w4 (CrcM.sum (w4 x.length ++ x)).toNat ++ y ++ t) = none := by
  unfold scan1
  rw [if_neg]
  rintro ⟨_, _, _, h4⟩
  have hn : num ((w4 x.length ++ w4 (CrcM.sum (w4 x.length ++ x)).toNat ++ y ++ t).take 4) = x.length := by
    rw [show (w4 x.length ++ w4 (CrcM.sum (w4 x.length ++ x)).toNat ++ y ++ t).take 4 = w4 x.length from by simp [w4], num_w4 _ (by omega)]
  have hd : ((w4 x.length ++ w4 (CrcM.sum (w4 x.length ++ x)).toNat ++ y ++ t).drop 8).take x.length = y := by
    rw [show (w4 x.length ++ w4 (CrcM.sum (w4 x.length ++ x)).toNat ++ y ++ t).drop 8 = y ++ t from by simp [w4], ← hl, List.take_append_of_le_length (Nat.le_refl _), List.take_length]
  have ht : (w4 x.length ++ w4 (CrcM.sum (w4 x.length ++ x)).toNat ++ y ++ t).take (8 + x.length) = w4 x.length ++ w4 (CrcM.sum (w4 x.length ++ x)).toNat ++ y := by
    rw [List.take_append_of_le_length (by simp [w4]; omega), List.take_of_length_le (by simp [w4]; omega)]
  rw [hn, hd, ht, rec, hl] at h4
  have h5 := List.append_cancel_right h4
  have h6 := List.append_cancel_left h5
  have h7 := w4_inj (by have := (CrcM.sum (w4 x.length ++ y)).isLt; omega) (by have := (CrcM.sum (w4 x.length ++ x)).isLt; omega) h6
  exact hs (BitVec.eq_of_toNat_eq h7)
theorem recs_cnt : ∀ l : List (List UInt8), l.length * 8 ≤ (recs l).length
  | [] => by simp
  | x :: l => by
    have := recs_cnt l
    rw [recs_cons, List.length_append, rec_len, List.length_cons]
    omega
end Go.Proofs.Ytlceembcehokoaa.Rc

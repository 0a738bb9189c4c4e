/- More plain laws of scans: how the program looks at a record. -/
import Derived.Test.YtlceembcehokoaaScanMath2
namespace Go.Proofs.Ytlceembcehokoaa.Rc
set_option maxRecDepth 100000

theorem ofNat_of {n : Nat} {b : UInt8} (h : n = b.toNat) : UInt8.ofNat n = b := by rw [h, UInt8.ofNat_toNat]
theorem w4_num (d : List UInt8) (hd : d.length = 4) : w4 (num d) = d := by
  match d, hd with
  | [a, b, c, e], _ =>
    have ha := a.toNat_lt
    have hb := b.toNat_lt
    have hc := c.toNat_lt
    have he := e.toNat_lt
    simp only [w4, num, List.foldl_cons, List.foldl_nil]
    rw [ofNat_of (b := a) (by omega), ofNat_of (b := b) (by omega), ofNat_of (b := c) (by omega), ofNat_of (b := e) (by omega)]
theorem num_inj {c d : List UInt8} (hc : c.length = 4) (hd : d.length = 4) (h : num c = num d) : c = d := by rw [← w4_num c hc, h, w4_num d hd]
/-- the record that stands first, as the program looks at it -/
theorem scan1_by (bs : List UInt8) : scan1 bs = if 8 ≤ bs.length ∧ num (bs.take 4) ≤ 65536 ∧ 8 + num (bs.take 4) ≤ bs.length ∧ (CrcM.add (CrcM.sum (bs.take 4)) ((bs.drop 8).take (num (bs.take 4)))).toNat = num ((bs.drop 4).take 4) then some ((bs.drop 8).take (num (bs.take 4))) else none := by
  unfold scan1
  by_cases h : 8 ≤ bs.length ∧ num (bs.take 4) ≤ 65536 ∧ 8 + num (bs.take 4) ≤ bs.length
  · obtain ⟨h1, h2, h3⟩ := h
    have hl : ((bs.drop 8).take (num (bs.take 4))).length = num (bs.take 4) := by rw [List.length_take, List.length_drop]; omega
    have h4 : (bs.take 4).length = 4 := by rw [List.length_take]; omega
    have h4' : ((bs.drop 4).take 4).length = 4 := by rw [List.length_take, List.length_drop]; omega
    have ht : bs.take (8 + num (bs.take 4)) = bs.take 4 ++ (bs.drop 4).take 4 ++ (bs.drop 8).take (num (bs.take 4)) := by
      rw [show 8 + num (bs.take 4) = 4 + (4 + num (bs.take 4)) by omega, List.take_add, List.take_add, List.drop_drop, List.append_assoc]
    have key : rec ((bs.drop 8).take (num (bs.take 4))) = bs.take (8 + num (bs.take 4)) ↔ (CrcM.add (CrcM.sum (bs.take 4)) ((bs.drop 8).take (num (bs.take 4)))).toNat = num ((bs.drop 4).take 4) := by
      rw [ht]
      unfold rec
      rw [hl, w4_num _ h4, show CrcM.sum (bs.take 4 ++ (bs.drop 8).take (num (bs.take 4))) = CrcM.add (CrcM.sum (bs.take 4)) ((bs.drop 8).take (num (bs.take 4))) from CrcM.add_append _ _ _]
      have hb := (CrcM.add (CrcM.sum (bs.take 4)) ((bs.drop 8).take (num (bs.take 4)))).isLt
      constructor
      · intro h
        have h5 := List.append_cancel_right h
        have h6 := List.append_cancel_left h5
        rw [← h6, num_w4 _ (by omega)]
      · intro h
        rw [h, w4_num _ h4']
    by_cases hr : rec ((bs.drop 8).take (num (bs.take 4))) = bs.take (8 + num (bs.take 4))
    · rw [if_pos ⟨h1, h2, h3, hr⟩, if_pos ⟨h1, h2, h3, key.1 hr⟩]
    · rw [if_neg (fun h => hr h.2.2.2), if_neg (fun h => hr (key.2 h.2.2.2))]
  · rw [if_neg (fun k => h ⟨k.1, k.2.1, k.2.2.1⟩), if_neg (fun k => h ⟨k.1, k.2.1, k.2.2.1⟩)]
theorem Told.len {bs : List UInt8} {pre : List (List UInt8)} {a : Nat} (h : Told bs pre a) : (recs pre).length = a := by
  obtain ⟨h1, h2⟩ := recs_scan bs
  obtain ⟨h3, h4⟩ := recs_scan (bs.drop a)
  have e1 := congrArg List.length h1
  have e2 := congrArg List.length h3
  rw [List.length_take] at e1 e2
  rw [h.2] at e1 h2
  simp only [recs, List.flatMap_append, List.length_append] at e1 e2 h2 h4 ⊢
  omega
theorem scan_len (bs : List UInt8) : (recs (scan bs).1).length = (scan bs).2 := by
  obtain ⟨h1, h2⟩ := recs_scan bs
  rw [h1, List.length_take]; omega
end Go.Proofs.Ytlceembcehokoaa.Rc

/- Proved here, for the statement TopFairCardSaid: laws that its walk leans on. It holds with no condition. (Put together and shortened by a program out of many texts: DecMath.) -/
import Derived.Test.YtbeaoddjomdlcaaGreatDoorZ36
import Derived.Test.YtbeaoddjomdlcaaGreatDoorZ45
import Derived.Test.YtbeaoddjomdlcaaGreatDoorZ23
set_option linter.unusedVariables false
set_option linter.unusedSimpArgs false
set_option maxRecDepth 100000
set_option maxHeartbeats 64000000
namespace Go.Proofs.YtbeaoddjomdlcaaGreatDoor.QueueM
open ReadM
def rdn (most : Nat) (s : List UInt8 × Bool) : Nat × (List UInt8 × Bool) :=
  if s.2 = true then (0, s) else match numRes most s.1 with
    | some x => (x.1, (x.2, false))
    | none => (0, (s.1, true))
def one5 (s : List UInt8 × Bool) : Wt × (List UInt8 × Bool) :=
  (⟨(rdn 28629151 s).1, (rdn 7 (rdn 28629151 s).2).1, (rdn 600 (rdn 7 (rdn 28629151 s).2).2).1, (rdn 1099511627776 (rdn 600 (rdn 7 (rdn 28629151 s).2).2).2).1,
    FareM.of (rdn 18446744073709551615 (rdn 1099511627776 (rdn 600 (rdn 7 (rdn 28629151 s).2).2).2).2).1⟩,
   (rdn 18446744073709551615 (rdn 1099511627776 (rdn 600 (rdn 7 (rdn 28629151 s).2).2).2).2).2)
def rdec5 : Nat → List Wt → List UInt8 × Bool → Option (List Wt × (List UInt8 × Bool))
  | 0, l, s => some (l, s)
  | k + 1, l, s => if (one5 s).2.2 = true ∨ (add (one5 s).1 l).1 ≠ 0 then none else rdec5 k (add (one5 s).1 l).2 (one5 s).2
def wholeS (s : List UInt8 × Bool) : Bool := !s.2 && decide (s.1 = [])
def decR (b : List UInt8) : Option (List Wt) := match rdec5 (rdn 200 (b, false)).1 [] (rdn 200 (b, false)).2 with
  | some x => if wholeS x.2 = true ∧ enc x.1 = b then some x.1 else none
  | none => none
theorem rdn_bad (most : Nat) (bs : List UInt8) : rdn most (bs, true) = (0, (bs, true)) := by simp [rdn]
theorem rdn_lt (most : Nat) (s : List UInt8 × Bool) : (rdn most s).1 ≤ most := by
  unfold rdn
  split
  · exact Nat.zero_le _
  · unfold numRes
    split
    · rename_i h
      split at h
      · split at h
        · injection h with h; rw [← h]; assumption
        · cases h
      · cases h
    · exact Nat.zero_le _
theorem rdn_num {most n : Nat} (h : n ≤ most) (h64 : n < 18446744073709551616) (rest : List UInt8) : rdn most (FieldM.num n ++ rest, false) = (n, (rest, false)) := by
  simp [rdn, numRes, dec_num h64, h]
theorem rdn_inv {most : Nat} {s : List UInt8 × Bool} (h : (rdn most s).2.2 = false) : s.2 = false ∧ s.1 = FieldM.num (rdn most s).1 ++ (rdn most s).2.1 ∧ (rdn most s).1 < 18446744073709551616 := by
  unfold rdn at h ⊢
  split at h
  · rename_i hb
    rw [hb] at h; cases h
  · rename_i hb
    have hb' : s.2 = false := by simpa using hb
    rw [if_neg hb]
    split at h
    · rename_i x hx
      dsimp only
      unfold numRes at hx
      split at hx
      · rename_i n rest hd
        split at hx
        · injection hx with hx
          subst hx
          have := dec_inv hd
          exact ⟨hb', by rw [this]; simp [FieldM.num], dec_lt hd⟩
        · cases hx
      · cases hx
    · cases h
theorem one5_inv {s : List UInt8 × Bool} (h : (one5 s).2.2 = false) : s.2 = false ∧ s.1 = wenc (one5 s).1 ++ (one5 s).2.1 ∧ (one5 s).1.score < 18446744073709551616 := by
  unfold one5 at h ⊢
  dsimp only at h ⊢
  obtain ⟨b4, e4, l4⟩ := rdn_inv h
  obtain ⟨b3, e3, l3⟩ := rdn_inv b4
  obtain ⟨b2, e2, l2⟩ := rdn_inv b3
  obtain ⟨b1, e1, l1⟩ := rdn_inv b2
  obtain ⟨b0, e0, l0⟩ := rdn_inv b1
  refine ⟨b0, ?_, FareM.of_lt l4⟩
  rw [e0, e1, e2, e3, e4]
  simp [wenc, nums, FareM.key_of l4]
theorem one5_enc {x : Wt} (hr : right x = true) (hs : x.score < 18446744073709551616) (rest : List UInt8) : one5 (wenc x ++ rest, false) = (x, (rest, false)) := by
  have h := (right_iff x).1 hr
  have hk := FareM.key_lt hs
  have e : wenc x ++ rest = FieldM.num x.id.toNat ++ (FieldM.num x.cls.toNat ++ (FieldM.num x.many.toNat ++ (FieldM.num x.time.toNat ++ (FieldM.num (FareM.key x.score) ++ rest)))) := by simp [wenc, nums]
  unfold one5
  rw [e, rdn_num (by omega) (by omega)]
  dsimp only
  rw [rdn_num (by omega) (by omega)]
  dsimp only
  rw [rdn_num (by omega) (by omega)]
  dsimp only
  rw [rdn_num (by omega) (by omega)]
  dsimp only
  rw [rdn_num (by omega) (by omega), FareM.of_key hs, Int.toNat_of_nonneg (by omega), Int.toNat_of_nonneg (by omega), Int.toNat_of_nonneg (by omega), Int.toNat_of_nonneg (by omega)]
theorem cnt_all {w : Wt} {l : List Wt} (h : ∀ x ∈ l, ahead x w = true) : cnt w l = l.length := by
  induction l with
  | nil => rfl
  | cons x l ih =>
    rw [cnt_cons, if_pos (h x (by simp)), ih (fun y hy => h y (by simp [hy]))]
    rfl
theorem ins_end {w : Wt} {l : List Wt} (h : ∀ x ∈ l, ahead x w = true) : ins w l = l ++ [w] := by
  unfold ins
  rw [cnt_all h, List.take_length, List.drop_length]
theorem add_end {x : Wt} {l r : List Wt} (h : Good (l ++ x :: r)) : add x l = (0, l ++ [x]) := by
  have hs := List.pairwise_append.1 h.sorted
  have hah : ∀ y ∈ l, ahead y x = true := fun y hy => hs.2.2 y hy x (by simp)
  have hno : has x.id l = false := by
    rcases Bool.eq_false_or_eq_true (has x.id l) with hh | hh
    · obtain ⟨y, hy, e⟩ := has_iff.1 hh
      have ho := h.once
      rw [List.map_append, List.nodup_append] at ho
      exact absurd e (ho.2.2 y.id (List.mem_map.2 ⟨y, hy, rfl⟩) x.id (by simp))
    · exact hh
  have hf := h.few
  rw [List.length_append, List.length_cons] at hf
  unfold add
  rw [if_pos (h.right x (by simp)), hno, if_neg (by simp), if_neg (by omega), ins_end hah]
theorem add_zero {x : Wt} {l : List Wt} (h : (add x l).1 = 0) : right x = true ∧ has x.id l = false ∧ (add x l).2 = ins x l := by
  unfold add at *
  split
  · rename_i hr
    rw [if_pos hr] at h
    split
    · rename_i hh
      rw [if_pos hh] at h
      exact absurd h (by simp)
    · rename_i hh
      rw [if_neg hh] at h
      split
      · rename_i hf
        rw [if_pos hf] at h
        exact absurd h (by simp)
      · exact ⟨hr, by simpa using hh, rfl⟩
  · rename_i hr
    rw [if_neg hr] at h
    exact absurd h (by simp)
def WordsM (l : List Wt) : Prop := ∀ x ∈ l, x.score < 18446744073709551616
theorem rdec_enc : ∀ (r l : List Wt) (rest : List UInt8), Good (l ++ r) → WordsM (l ++ r) → rdec5 r.length l (r.flatMap wenc ++ rest, false) = some (l ++ r, (rest, false))
  | [], l, rest, _, _ => by simp [rdec5]
  | x :: r, l, rest, hg, hw => by
    have h1 := one5_enc (hg.right x (by simp)) (hw x (by simp)) (r.flatMap wenc ++ rest)
    rw [List.length_cons, rdec5, List.flatMap_cons, List.append_assoc, h1]
    dsimp only
    rw [add_end hg, if_neg (by simp)]
    dsimp only
    rw [rdec_enc r (l ++ [x]) rest (by rw [List.append_assoc]; exact hg) (by rw [List.append_assoc]; exact hw), List.append_assoc]
    rfl
theorem rdn_len200 {l : List Wt} (h : Good l) (rest : List UInt8) : rdn 200 (FieldM.num l.length ++ rest, false) = (l.length, (rest, false)) := rdn_num h.few (by have := h.few; omega) rest
theorem decR_enc {l : List Wt} (hg : Good l) (hw : WordsM l) : decR (enc l) = some l := by
  unfold decR
  have h1 := rdn_len200 hg (l.flatMap wenc)
  have h2 := rdec_enc l [] [] (by simpa using hg) (by simpa using hw)
  rw [List.append_nil] at h2
  rw [show enc l = FieldM.num l.length ++ l.flatMap wenc from rfl, h1]
  dsimp only
  rw [h2]
  dsimp only
  rw [if_pos ⟨by simp [wholeS], by simp [enc]⟩]
  simp
theorem rdec_good : ∀ (k : Nat) (l : List Wt) (s : List UInt8 × Bool) (m : List Wt) (t : List UInt8 × Bool), Good l → WordsM l → rdec5 k l s = some (m, t) → Good m ∧ WordsM m
  | 0, l, s, m, t, hg, hw, h => by
    rw [rdec5] at h
    injection h with h
    injection h with h1 h2
    subst h1
    exact ⟨hg, hw⟩
  | k + 1, l, s, m, t, hg, hw, h => by
    rw [rdec5] at h
    split at h
    · cases h
    · rename_i hn
      have ha : (add (one5 s).1 l).1 = 0 := by
        rcases Classical.em ((add (one5 s).1 l).1 = 0) with e | e
        · exact e
        · exact absurd (.inr e) hn
      have hb : (one5 s).2.2 = false := by
        rcases Bool.eq_false_or_eq_true (one5 s).2.2 with e | e
        · exact absurd (.inl e) hn
        · exact e
      obtain ⟨_, _, h2⟩ := one5_inv hb
      refine rdec_good k _ _ m t (hg.add _) (fun y hy => ?_) h
      rw [(add_zero ha).2.2] at hy
      rcases mem_ins.1 hy with rfl | hy
      · exact h2
      · exact hw y hy
theorem decR_inv {b : List UInt8} {l : List Wt} (h : decR b = some l) : Good l ∧ WordsM l ∧ b = enc l := by
  unfold decR at h
  split at h
  · rename_i x hx
    split at h
    · rename_i hwh
      injection h with h
      subst h
      obtain ⟨m, t⟩ := x
      obtain ⟨hg, hw⟩ := rdec_good _ _ _ _ _ Good.nil (fun x hx => by cases hx) hx
      exact ⟨hg, hw, hwh.2.symm⟩
    · cases h
  · cases h
end Go.Proofs.YtbeaoddjomdlcaaGreatDoor.QueueM

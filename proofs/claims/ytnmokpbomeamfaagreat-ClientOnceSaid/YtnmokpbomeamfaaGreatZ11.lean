/- Proved here, for the statement ClientOnceSaid: laws that its walk leans on. It holds with no condition. (Put together and shortened by a program out of many texts: ReadMath, Read2, RefRead, Read3, Read4, Read5, Read6.) -/
import Derived.Test.YtnmokpbomeamfaaGreatZ10
set_option linter.unusedVariables false
set_option maxRecDepth 100000
set_option maxHeartbeats 64000000
namespace Go.Proofs.YtnmokpbomeamfaaGreat
namespace ReadM
def val (d : List UInt8) : Nat := d.foldl (fun n b => n * 256 + b.toNat) 0
theorem val_snoc (d : List UInt8) (b : UInt8) : val (d ++ [b]) = val d * 256 + b.toNat := by simp [val]
theorem val_lt (d : List UInt8) : val d < 256 ^ d.length := by
 have h : ∀ (d : List UInt8) (n k : Nat), n < 256 ^ k → d.foldl (fun n b => n * 256 + b.toNat) n < 256 ^ (k + d.length) := by
  intro d
  induction d with
  | nil => intro n k h; simpa using h
  | cons b r ih =>
   intro n k h
   have hb := b.toNat_lt
   have h1 : n * 256 + b.toNat < 256 ^ (k + 1) := by rw [Nat.pow_succ]; omega
   have := ih _ _ h1
   simp only [List.foldl_cons, zG]
   rw [show k + (r.length + 1) = k + 1 + r.length by omega]
   exact this
 have := h d 0 0 (by simp)
 rw [Nat.zero_add] at this
 exact this
theorem take_snoc {d : List UInt8} {k : Nat} (h : k < d.length) : d.take (k + 1) = d.take k ++ [d[k]] := by rw [zu h]
def neg (b : UInt8) : Bool := decide (16 ≤ b.toNat)
def wid (b : UInt8) : Nat := if 16 ≤ b.toNat then b.toNat - 16 else b.toNat
def okHead (b : UInt8) : Bool := decide (b.toNat < 32) && decide (wid b ≤ 8) && (decide (0 < wid b) || !neg b)
def lean (d : List UInt8) : Bool := match d with | [] => true | b :: _ => decide (0 < b.toNat)
def dec : List UInt8 → Option (Nat × Bool × List UInt8)
 | [] => none
 | b :: r => if okHead b = true ∧ wid b ≤ r.length ∧ lean (r.take (wid b)) = true then some (val (r.take (wid b)), neg b, r.drop (wid b)) else none
theorem wid_le {b : UInt8} (h : okHead b = true) : wid b ≤ 8 := by
 simp only [okHead, Bool.and_eq_true, decide_eq_true_eq] at h
 exact h.1.2
theorem dec_some {b : UInt8} {r : List UInt8} (h1 : okHead b = true) (h2 : wid b ≤ r.length) (h3 : lean (r.take (wid b)) = true) : dec (b :: r) = some (val (r.take (wid b)), neg b, r.drop (wid b)) := by
 rw [dec, zl ⟨h1, h2, h3⟩]
theorem dec_none {b : UInt8} {r : List UInt8} (h : okHead b = false ∨ r.length < wid b ∨ lean (r.take (wid b)) = false) : dec (b :: r) = none := by
 rw [dec, zk]
 rintro ⟨h1, h2, h3⟩
 rcases h with h | h | h
 ·rw [h1] at h; cases h
 ·omega
 ·rw [h3] at h; cases h
theorem val_u64 {b : UInt8} {r : List UInt8} (h1 : okHead b = true) : val (r.take (wid b)) < 18446744073709551616 := by
 have h := val_lt (r.take (wid b))
 have h2 : (r.take (wid b)).length ≤ 8 := by rw [zw]; have := wid_le h1; omega
 have h3 : 256 ^ (r.take (wid b)).length ≤ 256 ^ 8 := Nat.pow_le_pow_right (by omega) h2
 omega
def qG (most : Nat) (bs : List UInt8) : Option (Nat × List UInt8) :=
 match dec bs with
 | some (n, false, rest) => if n ≤ most then some (n, rest) else none
 | _ => none
def qH (most : Int) (bs : List UInt8) : Option (List UInt8 × List UInt8) :=
 match dec bs with
 | some (n, false, rest) => if 0 ≤ most ∧ (n : Int) ≤ most ∧ n ≤ rest.length then some (rest.take n, rest.drop n) else none
 | _ => none
theorem dec_lt {bs : List UInt8} {n : Nat} {m : Bool} {rest : List UInt8} (h : dec bs = some (n, m, rest)) : n < 18446744073709551616 := by
 cases bs with
 | nil => cases h
 | cons b r =>
  rw [dec] at h
  split at h
  ·rename_i hh
   injection h with h
   injection h with h1 _
   subst h1
   exact val_u64 hh.1
  ·cases h
theorem dec_len {bs : List UInt8} {n : Nat} {m : Bool} {rest : List UInt8} (h : dec bs = some (n, m, rest)) : rest.length < bs.length := by
 cases bs with
 | nil => cases h
 | cons b r =>
  rw [dec] at h
  split at h
  ·injection h with h
   injection h with _ h2
   injection h2 with _ h3
   subst h3
   rw [zN, zG]
   omega
  ·cases h
end ReadM
section
open Go.RowKit ReadM
def NoPost (w : World) (g : Nat) (e : Ending) (w' : World) : Prop := e = .panicked thrown ∧ Frm (fun k => k = g) w w'
def SizePost (w : World) (B g : Nat) (n : Nat) (m : Bool) (rest : List UInt8) (e : Ending) (w' : World) : Prop :=
 ∃ A' cap', e = .returned (.tuple #[.int .u64 (n : Int), .bool m]) ∧ Lft w' B g A' cap' rest ∧ Frm (fun k => k = g) w w'
def SizeWay (w : World) (B g : Nat) (bs : List UInt8) (e : Ending) (w' : World) : Prop :=
 match dec bs with
 | none => NoPost w g e w'
 | some (n, m, rest) => SizePost w B g n m rest e w'
theorem andNot16 : ∀ k : Fin 32, bits .andNot .u8 ((k.val : Nat) : Int) 16 = if 16 ≤ k.val then ((k.val - 16 : Nat) : Int) else ((k.val : Nat) : Int) := by decide +kernel
theorem andNot_wid {b : UInt8} (h : b.toNat < 32) : bits .andNot .u8 (b.toNat : Int) 16 = (wid b : Int) := by
 have := andNot16 ⟨b.toNat, h⟩
 simp only at this
 rw [this, wid]
 split <;> rfl
theorem shl_or (v c : Nat) (hv : v < 72057594037927936) (hc : c < 256) : bits .or .u64 (IntKind.u64.wrap ((v : Int) * 256)) (c : Int) = ((v * 256 + c : Nat) : Int) := by
 have e : IntKind.u64.wrap ((v : Int) * 256) = ((v * 256 : Nat) : Int) := by rw [IntKind.wrap_u64]; omega
 rw [e, u64_or_nat (v * 256) c (by omega) (by omega)]
 congr 1
 rw [show v * 256 = 2 ^ 8 * v by omega, ← Nat.two_pow_add_eq_or_of_lt (by omega) v]
theorem sizeWay_none {w : World} {B g : Nat} {bs : List UInt8} {e : Ending} {w' : World} (h : dec bs = none) (hp : NoPost w g e w') : SizeWay w B g bs e w' := by
 unfold SizeWay; rw [h]; exact hp
theorem sizeWay_some {w : World} {B g : Nat} {bs : List UInt8} {n : Nat} {m : Bool} {rest : List UInt8} {e : Ending} {w' : World} (h : dec bs = some (n, m, rest)) (hp : SizePost w B g n m rest e w') : SizeWay w B g bs e w' := by
 unfold SizeWay; rw [h]; exact hp
theorem size_any (w : World) (B g : Nat) (A : Option Addr) (cap : Nat) (bs : List UInt8) (h : Lft w B g A cap bs) :
 Calls Tryz.prog 94 #[.pointer (some ⟨g, 0, none⟩)] w fun e w' => SizeWay w B g bs e w' := by
 have H := zh h
 clear h
 cases bs with
 | nil =>
  go_in
  go_wp2_with fail
  refine (take_no w B g A cap [] 1 H.out (by simp)).mono ?_
  rintro e w1 ⟨rfl, rfl⟩
  go_wp2_with fail
  exact ⟨rfl, rfl, za _ _⟩
 | cons b r =>
  go_in
  go_wp2_with fail
  refine (take_yes w B g A cap (b :: r) 1 H.out (by simp)).mono ?_
  rintro e w1 ⟨A1, rfl, h1, r1, F1⟩
  obtain ⟨bb, oo, hA, _, hc⟩ := r1.at_ (k := 0) (by simp)
  subst hA
  have hc1 : w1.cell? ⟨bb, oo, none⟩ = some (.int .u8 (b.toNat : Int)) := hc
  have H1 := zh h1
  have HF1 := zh F1
  clear h1 r1 F1 hc
  have hb := b.toNat_lt
  by_cases g32 : 32 ≤ b.toNat
  ·have HD := zh (show dec (b :: r) = none from dec_none (.inl (by simp [okHead]; omega)))
   have d1 : decide ((b.toNat : Int) < 32) = false := by simp; omega
   go_wp2_with fail
   refine (must_no _).mono ?_
   rintro e w2 ⟨rfl, rfl⟩
   go_wp2_with fail
   exact ⟨rfl, sizeWay_none HD.out ⟨rfl, HF1.out⟩⟩
  have hbits : bits .andNot .u8 (b.toNat : Int) 16 = (wid b : Int) := andNot_wid (by omega)
  have d1 : decide ((b.toNat : Int) < 32) = true := by simp; omega
  have hw0 : (0 : Int) ≤ (wid b : Int) := by omega
  have hw1 : (wid b : Int) ≤ 31 := by unfold wid; split <;> omega
  have HNEG : Hid (neg b = decide (16 ≤ b.toNat)) := zh rfl
  by_cases g8 : 8 < wid b
  ·have HD := zh (show dec (b :: r) = none from dec_none (.inl (by simp [okHead]; omega)))
   have d2 : decide ((wid b : Int) ≤ 8) = false := by simp; omega
   go_wp2_with fail
   refine (must_no _).mono ?_
   rintro e w2 ⟨rfl, rfl⟩
   go_wp2_with fail
   exact ⟨rfl, sizeWay_none HD.out ⟨rfl, HF1.out⟩⟩
  have d2 : decide ((wid b : Int) ≤ 8) = true := by simp; omega
  by_cases gz : wid b = 0 ∧ 16 ≤ b.toNat
  ·have HD := zh (show dec (b :: r) = none from dec_none (.inl (by simp [okHead, neg]; omega)))
   obtain ⟨gz1, gz2⟩ := gz
   rw [gz1] at hbits
   have d4 : decide (16 ≤ (b.toNat : Int)) = true := by simp; omega
   go_wp2_with fail
   refine (must_no _).mono ?_
   rintro e w2 ⟨rfl, rfl⟩
   go_wp2_with fail
   exact ⟨rfl, sizeWay_none HD.out ⟨rfl, HF1.out⟩⟩
  have HOK := zh (show okHead b = true from by simp [okHead, neg]; omega)
  have hlen := H.out.le
  have hmost := H.out.most
  simp only [zG] at hlen
  unfold maxLen at hmost
  rcases Nat.eq_zero_or_pos (wid b) with h0 | h0
  ·have hlt : b.toNat < 16 := Nat.lt_of_not_le fun h => gz ⟨h0, h⟩
   have hb0 : b.toNat = 0 := by
    unfold wid at h0
    rw [zk (by omega)] at h0
    exact h0
   have HNG := zh (show neg b = false from by unfold neg; simp; omega)
   have HWZ := zh h0
   rw [hb0] at hc1
   have hbits0 : bits .andNot .u8 0 16 = 0 := by have := hbits; rw [hb0, h0] at this; exact this
   clear hbits d1 hw0 hw1 HNEG d2 gz g8 g32 h0
   go_wp2_with fail
   refine (must_yes _).mono ?_
   rintro e w2 ⟨rfl, rfl⟩
   go_wp2_with fail
   refine (take_yes _ B g _ _ _ 0 H1.out (zF _)).mono ?_
   rintro e w3 ⟨A2, rfl, h3, r3, F3⟩
   have H3 := zh h3
   have HF3 := zh F3
   clear h3 F3 r3
   go_wp2_with fail
   refine wp_loop_rounds 1 ?_
   rw [rounds_succ]
   go_wp2_with fail
   go_ret2
   refine sizeWay_some (n := 0) (m := false) (rest := r) ?_ ⟨A2, _, rfl, H3.out, HF1.out.trans HF3.out⟩
   rw [dec_some HOK.out (by rw [HWZ.out]; omega) (by rw [HWZ.out]; rfl), HWZ.out, HNG.out]
   rfl
  ·have HNG := zh (show neg b = decide (16 ≤ (b.toNat : Int)) from by unfold neg; rw [decide_eq_decide]; omega)
   have hz : (0 : Int) < (wid b : Int) := by omega
   clear gz g8 g32 HNEG
   go_wp2_with fail
   refine (must_yes _).mono ?_
   rintro e w2 ⟨rfl, rfl⟩
   go_wp2_with fail
   by_cases hr : wid b ≤ r.length
   ·have HR := zh hr
    refine (take_yes _ B g _ _ _ (wid b) H1.out (by simpa using hr)).mono ?_
    rintro e w3 ⟨A2, rfl, h3, r3, F3⟩
    have H3 := zh h3
    have R3 := zh r3
    have HF3 := zh (HF1.out.trans F3)
    clear h3 F3 r3 hc1
    have hdl : (r.take (wid b)).length = wid b := by rw [zw]; omega
    have HDL := zh hdl
    have h8 : wid b ≤ 8 := wid_le HOK.out
    have hv64 : ∀ k, val ((r.take (wid b)).take k) < 256 ^ min k 8 := fun k => by
     refine Nat.lt_of_lt_of_le (val_lt _) (Nat.pow_le_pow_right (by omega) ?_)
     rw [zw, zw]
     omega
    have HV64 := zh hv64
    clear hdl hv64
    simp only [List.drop_succ_cons, List.drop_zero] at R3 H3
    go_wp2_with fail
    go_loopw [7, 38] (fun v7 v38 wr => ∃ k : Nat, k ≤ wid b ∧ v7 = .int .u64 (val ((r.take (wid b)).take k) : Int) ∧ v38 = .int .i64 (k : Int) ∧ (0 < k → lean (r.take (wid b)) = true) ∧ w3 = wr) (fun _ v38 _ => wid b - (intOf v38).toNat)
    case atStart => exact ⟨0, by omega, rfl, rfl, fun h => by omega, rfl⟩
    case round =>
     obtain ⟨k, hk, rfl, rfl, hlean, rfl⟩ := hrel
     have HLEAN := zh hlean
     clear hlean
     by_cases hkw : k < wid b
     ·obtain ⟨b2, o2, hA2, _, hc⟩ := R3.out.at_ (k := k) (by rw [zB, HDL.out]; exact hkw)
      subst hA2
      rw [List.getElem_map] at hc
      have hkd : k < (r.take (wid b)).length := by rw [HDL.out]; exact hkw
      have HTS := zh (take_snoc hkd)
      have hvk := HV64.out k
      generalize hcx : (r.take (wid b))[k] = c at hc HTS
      have HCX := zh hcx
      have hcl := c.toNat_lt
      have hc2 : w3.cell? ⟨b2, o2 + k, none⟩ = some (.int .u8 (c.toNat : Int)) := hc
      have hk0 : (0 : Int) ≤ k := by omega
      have hkw2 : (k : Int) < wid b := by omega
      clear hc hcx
      have hvm : val ((r.take (wid b)).take k) < 72057594037927936 := by
       have h2 : 256 ^ min k 8 ≤ 256 ^ 7 := Nat.pow_le_pow_right (by omega) (by omega)
       omega
      have HOR := zh (shl_or _ c.toNat hvm (by omega))
      have HNX := zh (show val ((r.take (wid b)).take (k + 1)) = val ((r.take (wid b)).take k) * 256 + c.toNat from by rw [HTS.out, val_snoc])
      clear hvk hvm
      rcases Nat.eq_zero_or_pos k with hz0 | hz0
      ·subst hz0
       rw [Nat.add_zero] at hc2
       rcases Nat.eq_zero_or_pos c.toNat with hcz | hcz
       ·have HD : Hid (dec (b :: r) = none) := zh (dec_none (.inr (.inr (by
         have hd : r.take (wid b) = c :: (r.take (wid b)).drop 1 := by
          rw [← HCX.out]
          have := zK hkd
          simpa using this
         rw [hd, lean]
         simp
         omega))))
        rw [hcz] at hc2
        clear hcz
        go_wp2_with fail
        refine (must_no _).mono ?_
        rintro e w4 ⟨rfl, rfl⟩
        go_wp2_with fail
        exact ⟨rfl, sizeWay_none HD.out ⟨rfl, HF3.out⟩⟩
       ·have HLN := zh (show lean (r.take (wid b)) = true from by
         have hd : r.take (wid b) = c :: (r.take (wid b)).drop 1 := by
          rw [← HCX.out]
          have := zK hkd
          simpa using this
         rw [hd, lean]
         simpa using hcz)
        have hcp2 : (0 : Int) < c.toNat := by omega
        go_wp2_with fail
        refine (must_yes _).mono ?_
        rintro e w4 ⟨rfl, rfl⟩
        go_wp2_with fail
        go_roundw
        case rel => exact ⟨0 + 1, by omega, by rw [HNX.out, ← HOR.out]; rfl, by go_num, fun _ => HLN.out, by first | rfl | trivial⟩
        case measure => simp [intOf]; omega
      ·go_wp2_with fail
       refine (must_yes _).mono ?_
       rintro e w4 ⟨rfl, rfl⟩
       go_wp2_with fail
       go_roundw
       case rel => exact ⟨k + 1, by omega, by rw [HNX.out, ← HOR.out], by go_num, fun _ => HLEAN.out hz0, by first | rfl | trivial⟩
       case measure => simp [intOf]; omega
     ·obtain rfl : k = wid b := by omega
      go_wp2_with fail
      go_ret2
      refine sizeWay_some (dec_some HOK.out HR.out (HLEAN.out h0)) ?_
      rw [show val (r.take (wid b)) = val ((r.take (wid b)).take (wid b)) from by rw [List.take_take, Nat.min_self], HNG.out]
      exact ⟨A2, _, rfl, H3.out, HF3.out⟩
   ·have HD := zh (show dec (b :: r) = none from dec_none (.inr (.inl (by omega))))
    refine (take_no _ B g _ _ _ (wid b) H1.out (by simp; omega)).mono ?_
    rintro e w3 ⟨rfl, rfl⟩
    go_wp2_with fail
    exact ⟨rfl, sizeWay_none HD.out ⟨rfl, HF1.out⟩⟩
def RefAt (w : World) (B g : Nat) (bs : List UInt8) (at_ : Nat) (amis : Bool) : Prop :=
 ∃ A cap, Blk w g 100 #[.slice A bs.length cap, .int .i64 (at_ : Int), .bool amis] ∧ Rd w B A (bs.map bv) ∧ bs.length ≤ cap ∧ cap ≤ maxLen ∧ B ≤ g
theorem RefAt.frm {w w' : World} {B g : Nat} {bs : List UInt8} {at_ : Nat} {amis : Bool} {S : Nat → Prop} (h : RefAt w B g bs at_ amis) (hf : Frm S w w') (hg : ¬ S g) (hS : ∀ k, k < B → ¬ S k) : RefAt w' B g bs at_ amis := by
 obtain ⟨A, cap, h1, h2, h3, h4, h5⟩ := h
 exact ⟨A, cap, h1.frm hf hg, h2.frm (by have := h1.lt; omega) hf (fun p _ hp => hS _ hp), h3, h4, h5⟩
def rdec (amis : Bool) (bs : List UInt8) (at_ : Nat) : Option (Nat × Bool × List UInt8) := if amis then none else dec (bs.drop at_)
def NextPost (w : World) (bs : List UInt8) (at_ : Nat) (r : Option (Nat × Bool × List UInt8)) (e : Ending) (w' : World) : Prop :=
 ∃ (n : Nat) (m : Bool) (k q : Nat), e = .returned (.tuple #[.int .u64 (n : Int), .bool m, .int .i64 (k : Int)]) ∧ w' = w.drewN q ∧
  ((r = none ∧ n = 0 ∧ m = false ∧ k = 0) ∨ (∃ rest, r = some (n, m, rest) ∧ 0 < k ∧ at_ + k ≤ bs.length ∧ rest = bs.drop (at_ + k)))
theorem jW (w : World) (k n : Nat) : (w.drewN k).drewN n = w.drewN (k + n) := by simp [World.drewN, Nat.add_assoc]
theorem mul_add (v c : Nat) (hv : v < 72057594037927936) (hc : c < 256) : IntKind.u64.wrap (IntKind.u64.wrap ((v : Int) * 256) + IntKind.u64.wrap (c : Int)) = ((v * 256 + c : Nat) : Int) := by
 rw [IntKind.wrap_u64, IntKind.wrap_u64, IntKind.wrap_u64]; omega
set_option maxRecDepth 100000 in
theorem next_any (w : World) (B g : Nat) (bs : List UInt8) (at_ : Nat) (amis : Bool) (hat : at_ ≤ bs.length) (hbl : bs.length ≤ 140737488355328) (h : RefAt w B g bs at_ amis) :
 Calls Tryz.prog 64 #[.pointer (some ⟨g, 0, none⟩)] w fun e w' => NextPost w bs at_ (rdec amis bs at_) e w' := by
 obtain ⟨A, cap, hb, hrd, hle, hmost, _⟩ := h
 have hc2 : w.cell? ⟨g, 2, none⟩ = some (.bool amis) := hb.cell 2
 have hd1 : ∀ n, (w.drewN n).cell? ⟨g, 1, none⟩ = some (.int .i64 (at_ : Int)) := fun _ => hb.cell 1
 have hd0 : ∀ n, (w.drewN n).cell? ⟨g, 0, none⟩ = some (.slice A bs.length cap) := fun _ => hb.cell 0
 have hd2 : ∀ n, (w.drewN n).cell? ⟨g, 2, none⟩ = some (.bool amis) := fun _ => hb.cell 2
 have hc0 : w.cell? ⟨g, 0, none⟩ = some (.slice A bs.length cap) := hb.cell 0
 have hc1 : w.cell? ⟨g, 1, none⟩ = some (.int .i64 (at_ : Int)) := hb.cell 1
 have HR := zh hrd
 unfold maxLen at hmost
 clear hb hrd
 cases amis with
 | true =>
  go_in
  go_wp2_with fail
  go_quiet (fail)
  go_wp2_with fail
  go_ret3
  exact ⟨0, false, 0, _, rfl, rfl, .inl ⟨rfl, rfl, rfl, rfl⟩⟩
 | false =>
  by_cases hat2 : at_ = bs.length
  ·have HD := zh (show rdec false bs at_ = none from by rw [rdec, zk (by simp), hat2, List.drop_length]; rfl)
   have d1 : decide (bs.length ≤ at_) = true := by simp; omega
   clear hat2
   go_in
   go_wp2_with fail
   go_quiet (fail)
   go_wp2_with fail
   go_ret3
   exact ⟨0, false, 0, _, rfl, rfl, .inl ⟨HD.out, rfl, rfl, rfl⟩⟩
  ·have hlt : at_ < bs.length := by omega
   have hlti : (at_ : Int) < (bs.length : Int) := by omega
   have hat0 : (0 : Int) ≤ at_ := by omega
   have d1 : decide (bs.length ≤ at_) = false := by simp; omega
   obtain ⟨bb, oo, hA, _, hcA⟩ := HR.out.at_ (k := at_) (by simpa using hlt)
   subst hA
   have CELL : Hid (∀ j (hj : j < bs.length) n, (w.drewN n).cell? ⟨bb, oo + j, none⟩ = some (.int .u8 (bs[j].toNat : Int))) := zh (by
    intro j hj n
    obtain ⟨b2, o2, hA2, _, hc⟩ := HR.out.at_ (k := j) (by simpa using hj)
    injection hA2 with hA2
    injection hA2 with e1 e2
    subst e1 e2
    rw [List.getElem_map] at hc
    exact hc)
   clear hcA
   have hbd : bs[at_].toNat < 256 := bs[at_].toNat_lt
   have HDR := zh (zK hlt)
   obtain ⟨b, hbe⟩ : ∃ b, b = bs[at_] := ⟨_, rfl⟩
   have cb : ∀ n, (w.drewN n).cell? ⟨bb, oo + at_, none⟩ = some (.int .u8 (b.toNat : Int)) := by rw [hbe]; exact CELL.out at_ hlt
   rw [← hbe] at hbd HDR
   have HBE := zh hbe
   clear hbe
   obtain ⟨r, hr⟩ : ∃ r, r = bs.drop (at_ + 1) := ⟨_, rfl⟩
   rw [← hr] at HDR
   have hrl : r.length = bs.length - (at_ + 1) := by rw [hr, zN]
   have HRR := zh hr
   have HRL := zh hrl
   clear hr hrl
   have HDEC := zh (show rdec false bs at_ = dec (b :: r) from by rw [rdec, zk (by simp), HDR.out])
   have hw1 : IntKind.i64.wrap ((at_ : Int) + 1) = (at_ : Int) + 1 := zm _ (by omega)
   by_cases hn : 16 ≤ b.toNat
   ·obtain ⟨k, hk⟩ : ∃ k, b.toNat = k + 16 := ⟨b.toNat - 16, by omega⟩
    have hwid : wid b = k := by unfold wid; rw [zl hn]; omega
    have hneg : neg b = true := by unfold neg; simpa using hn
    have hkb : k ≤ 239 := by omega
    have hkk : (b.toNat : Int) = (k : Int) + 16 := by omega
    have hok : okHead b = (decide (k ≤ 8) && decide (0 < k)) := by
     unfold okHead
     rw [hwid, hneg, hk]
     by_cases q1 : k ≤ 8 <;> by_cases q2 : 0 < k <;> simp [q1, q2] <;> omega
    rw [hkk] at cb
    have hg16 : (16 : Int) ≤ (k : Int) + 16 := by omega
    have HW := zh hwid
    have HNG := zh hneg
    have HOK := zh hok
    clear hwid hneg hok hk hkk hn hbd
    go_in
    go_wp2_with fail
    go_quiet (fail)
    go_wp2_with fail
    go_quiet (fail)
    go_wp2_with fail
    have hs1 : IntKind.i64.wrap ((at_ : Int) + 1 + (k : Int)) = (at_ : Int) + 1 + (k : Int) := zm _ (by omega)
    have hs0 : (0 : Int) ≤ (at_ : Int) + 1 := by omega
    have hs2 : ((at_ : Int) + 1).toNat = at_ + 1 := by omega
    have hk00 : (0 : Int) ≤ (k : Int) := by omega
    by_cases k8 : 8 < k
    ·have HN := zh (show rdec false bs at_ = none from by rw [HDEC.out]; exact dec_none (.inl (by rw [HOK.out]; simp; omega)))
     have e1 : decide (8 < (k : Int)) = true := by simp; omega
     have e2 : (8 : Int) < (k : Int) := by omega
     go_quiet (fail)
     go_wp2_with fail
     go_ret3
     exact ⟨0, false, 0, _, rfl, jW _ _ _, .inl ⟨HN.out, rfl, rfl, rfl⟩⟩
    have e1 : decide (8 < (k : Int)) = false := by simp; omega
    by_cases hlen : r.length < k
    ·have HN := zh (show rdec false bs at_ = none from by rw [HDEC.out]; exact dec_none (.inr (.inl (by rw [HW.out]; exact hlen))))
     have hrl2 := HRL.out
     have e2 : decide ((bs.length : Int) < (at_ : Int) + 1 + (k : Int)) = true := by simp; omega
     have e3 : (bs.length : Int) < (at_ : Int) + 1 + (k : Int) := by omega
     go_quiet (fail)
     go_wp2_with fail
     go_ret3
     exact ⟨0, false, 0, _, rfl, jW _ _ _, .inl ⟨HN.out, rfl, rfl, rfl⟩⟩
    have hrl2 := HRL.out
    have e2 : decide ((bs.length : Int) < (at_ : Int) + 1 + (k : Int)) = false := by simp; omega
    rcases Nat.eq_zero_or_pos k with hz | hz
    ·have HN := zh (show rdec false bs at_ = none from by rw [HDEC.out]; exact dec_none (.inl (by rw [HOK.out, hz]; rfl)))
     have e5 : decide (0 < (k : Int)) = false := by simp; omega
     have e5' : ((k : Int) == 0) = true := by simp; omega
     clear hz
     go_quiet (fail)
     go_wp2_with fail
     go_ret3
     exact ⟨0, false, 0, _, rfl, jW _ _ _, .inl ⟨HN.out, rfl, rfl, rfl⟩⟩
    ·have e5 : decide (0 < (k : Int)) = true := by simp; omega
     have e5' : ((k : Int) == 0) = false := by simp; omega
     have hj : at_ + 1 < bs.length := by omega
     have hrne : 0 < r.length := by omega
     have HC1 : Hid (bs[at_ + 1] = r[0]) := zh (by simp [HRR.out])
     have cc : ∀ n, (w.drewN n).cell? ⟨bb, oo + (at_ + 1), none⟩ = some (.int .u8 (r[0].toNat : Int)) := by rw [← HC1.out]; exact CELL.out (at_ + 1) hj
     have hlti2 : (at_ : Int) + 1 < (bs.length : Int) := by omega
     have htk0 : ∃ t, r.take k = r[0] :: t := ⟨(r.take k).drop 1, by
      have := zK (l := r.take k) (i := 0) (by rw [zw]; omega)
      simpa using this⟩
     have HTK0 := zh htk0
     have hc0b := r[0].toNat_lt
     generalize r[0] = c at cc HTK0 hc0b
     clear htk0
     rcases Nat.eq_zero_or_pos c.toNat with hcz | hcz
     ·have HN := zh (show rdec false bs at_ = none from by
       rw [HDEC.out]
       refine dec_none (.inr (.inr ?_))
       rw [HW.out]
       obtain ⟨t, ht⟩ := HTK0.out
       rw [ht, lean, hcz]
       rfl)
      rw [hcz] at cc
      clear hcz hc0b
      go_quiet (fail)
      go_wp2_with fail
      go_ret3
      exact ⟨0, false, 0, _, rfl, jW _ _ _, .inl ⟨HN.out, rfl, rfl, rfl⟩⟩
     ·have HLN := zh (show lean (r.take k) = true from by
       obtain ⟨t, ht⟩ := HTK0.out
       rw [ht, lean]
       simpa using hcz)
      have HY := zh (show rdec false bs at_ = some (val (r.take k), neg b, r.drop k) from by
       rw [HDEC.out]
       have := dec_some (b := b) (r := r) (by rw [HOK.out]; simp; omega) (by rw [HW.out]; omega) (by rw [HW.out]; exact HLN.out)
       rwa [HW.out] at this)
      have hcz2 : ((c.toNat : Int) == 0) = false := by simp; omega
      have hk8 : k ≤ 8 := by omega
      have hkr : k ≤ r.length := by omega
      clear k8 hlen hcz
      go_quiet (fail)
      clear e1 e2 e5 e5' cc hcz2
      go_wp2_with fail
      go_loopw [7, 8] (fun v7 v8 wr => ∃ i q : Nat, i ≤ k ∧ v7 = .int .u64 (val (r.take i) : Int) ∧ v8 = .int .i64 (i : Int) ∧ w.drewN q = wr) (fun _ v8 _ => k - (intOf v8).toNat)
      case atStart => exact ⟨0, _, by omega, rfl, rfl, (jW _ _ _).symm⟩
      case round =>
       obtain ⟨i, q, hik, rfl, rfl, rfl⟩ := hrel
       by_cases hi : i < k
       ·have hir : i < r.length := by omega
        have hji : at_ + 1 + i < bs.length := by omega
        have HCI : Hid (bs[at_ + 1 + i] = r[i]) := zh (by simp [HRR.out])
        have cc : ∀ n, (w.drewN n).cell? ⟨bb, oo + (at_ + 1 + i), none⟩ = some (.int .u8 (r[i].toNat : Int)) := by rw [← HCI.out]; exact CELL.out (at_ + 1 + i) hji
        have HVS := zh (show val (r.take (i + 1)) = val (r.take i) * 256 + r[i].toNat from by rw [take_snoc hir, val_snoc])
        have hvl : val (r.take i) < 72057594037927936 := by
         have h1 := val_lt (r.take i)
         have h2 : 256 ^ (r.take i).length ≤ 256 ^ 7 := Nat.pow_le_pow_right (by omega) (by rw [zw]; omega)
         omega
        have hci := r[i].toNat_lt
        generalize r[i] = c at cc HVS hci
        have HMA := zh (mul_add (val (r.take i)) c.toNat hvl (by omega))
        have hi0 : (0 : Int) ≤ (i : Int) := by omega
        have hik2 : (i : Int) < (k : Int) := by omega
        have hsi : IntKind.i64.wrap ((at_ : Int) + 1 + (i : Int)) = (at_ : Int) + 1 + (i : Int) := zm _ (by omega)
        have hsj : (0 : Int) ≤ (at_ : Int) + 1 + (i : Int) := by omega
        have hsk : ((at_ : Int) + 1 + (i : Int)).toNat = at_ + 1 + i := by omega
        have hsl : (at_ : Int) + 1 + (i : Int) < (bs.length : Int) := by omega
        clear hvl hci
        go_wp2_with fail
        go_quiet (fail)
        go_wp2_with fail
        go_roundw
        case rel => exact ⟨i + 1, _, by omega, by rw [HVS.out, ← HMA.out], by go_num, rfl⟩
        case measure => simp [intOf]; omega
       ·obtain rfl : i = k := by omega
        go_wp2_with fail
        go_ret3
        refine ⟨val (r.take i), true, i + 1, q, rfl, rfl, .inr ⟨r.drop i, by rw [HY.out, HNG.out], by omega, by omega, ?_⟩⟩
        rw [HRR.out, List.drop_drop]
        congr 1
        omega
   ·have hwid : wid b = b.toNat := by unfold wid; rw [zk hn]
    have hneg : neg b = false := by unfold neg; simpa using hn
    obtain ⟨k, hk⟩ : ∃ k, k = b.toNat := ⟨_, rfl⟩
    rw [← hk] at hwid
    have hok : okHead b = decide (k ≤ 8) := by
     unfold okHead
     rw [hwid, hneg, ← hk]
     by_cases q1 : k ≤ 8 <;> simp [q1] <;> omega
    have hkb : k ≤ 15 := by omega
    have hn' : (k : Int) < 16 := by omega
    have hng : decide ((16 : Int) ≤ (k : Int)) = false := by simp; omega
    rw [← hk] at cb
    have HW := zh hwid
    have HNG := zh hneg
    have HOK := zh hok
    clear hwid hneg hok hk hn hbd
    go_in
    go_wp2_with fail
    go_quiet (fail)
    go_wp2_with fail
    go_quiet (fail)
    go_wp2_with fail
    have hs1 : IntKind.i64.wrap ((at_ : Int) + 1 + (k : Int)) = (at_ : Int) + 1 + (k : Int) := zm _ (by omega)
    have hs0 : (0 : Int) ≤ (at_ : Int) + 1 := by omega
    have hs2 : ((at_ : Int) + 1).toNat = at_ + 1 := by omega
    have hk00 : (0 : Int) ≤ (k : Int) := by omega
    by_cases k8 : 8 < k
    ·have HN := zh (show rdec false bs at_ = none from by rw [HDEC.out]; exact dec_none (.inl (by rw [HOK.out]; simp; omega)))
     have e1 : decide (8 < (k : Int)) = true := by simp; omega
     have e2 : (8 : Int) < (k : Int) := by omega
     go_quiet (fail)
     go_wp2_with fail
     go_ret3
     exact ⟨0, false, 0, _, rfl, jW _ _ _, .inl ⟨HN.out, rfl, rfl, rfl⟩⟩
    have e1 : decide (8 < (k : Int)) = false := by simp; omega
    by_cases hlen : r.length < k
    ·have HN := zh (show rdec false bs at_ = none from by rw [HDEC.out]; exact dec_none (.inr (.inl (by rw [HW.out]; exact hlen))))
     have hrl2 := HRL.out
     have e2 : decide ((bs.length : Int) < (at_ : Int) + 1 + (k : Int)) = true := by simp; omega
     have e3 : (bs.length : Int) < (at_ : Int) + 1 + (k : Int) := by omega
     go_quiet (fail)
     go_wp2_with fail
     go_ret3
     exact ⟨0, false, 0, _, rfl, jW _ _ _, .inl ⟨HN.out, rfl, rfl, rfl⟩⟩
    have hrl2 := HRL.out
    have e2 : decide ((bs.length : Int) < (at_ : Int) + 1 + (k : Int)) = false := by simp; omega
    rcases Nat.eq_zero_or_pos k with hz | hz
    ·have HY := zh (show rdec false bs at_ = some (0, false, r) from by
      rw [HDEC.out]
      have := dec_some (b := b) (r := r) (by rw [HOK.out]; simp; omega) (by rw [HW.out]; omega) (by rw [HW.out, hz]; rfl)
      rw [HW.out, hz, HNG.out] at this
      exact this)
     have e5 : decide (0 < (k : Int)) = false := by simp; omega
     have HZ := zh hz
     have e6 : decide (0 < k) = false := by simp; omega
     clear hz
     go_quiet (fail)
     have hz := HZ.out
     subst hz
     go_wp2_with fail
     refine wp_loop_rounds 1 ?_
     rw [rounds_succ]
     go_wp2_with fail
     go_ret3
     exact ⟨0, false, 1, _, rfl, rfl, .inr ⟨r, HY.out, by omega, by omega, by rw [HRR.out]⟩⟩
    ·have e5 : decide (0 < (k : Int)) = true := by simp; omega
     have e5' : ((k : Int) == 0) = false := by simp; omega
     have hj : at_ + 1 < bs.length := by omega
     have hrne : 0 < r.length := by omega
     have HC1 : Hid (bs[at_ + 1] = r[0]) := zh (by simp [HRR.out])
     have cc : ∀ n, (w.drewN n).cell? ⟨bb, oo + (at_ + 1), none⟩ = some (.int .u8 (r[0].toNat : Int)) := by rw [← HC1.out]; exact CELL.out (at_ + 1) hj
     have hlti2 : (at_ : Int) + 1 < (bs.length : Int) := by omega
     have htk0 : ∃ t, r.take k = r[0] :: t := ⟨(r.take k).drop 1, by
      have := zK (l := r.take k) (i := 0) (by rw [zw]; omega)
      simpa using this⟩
     have HTK0 := zh htk0
     have hc0b := r[0].toNat_lt
     generalize r[0] = c at cc HTK0 hc0b
     clear htk0
     rcases Nat.eq_zero_or_pos c.toNat with hcz | hcz
     ·have HN := zh (show rdec false bs at_ = none from by
       rw [HDEC.out]
       refine dec_none (.inr (.inr ?_))
       rw [HW.out]
       obtain ⟨t, ht⟩ := HTK0.out
       rw [ht, lean, hcz]
       rfl)
      rw [hcz] at cc
      clear hcz hc0b
      go_quiet (fail)
      go_wp2_with fail
      go_ret3
      exact ⟨0, false, 0, _, rfl, jW _ _ _, .inl ⟨HN.out, rfl, rfl, rfl⟩⟩
     ·have HLN := zh (show lean (r.take k) = true from by
       obtain ⟨t, ht⟩ := HTK0.out
       rw [ht, lean]
       simpa using hcz)
      have HY := zh (show rdec false bs at_ = some (val (r.take k), neg b, r.drop k) from by
       rw [HDEC.out]
       have := dec_some (b := b) (r := r) (by rw [HOK.out]; simp; omega) (by rw [HW.out]; omega) (by rw [HW.out]; exact HLN.out)
       rwa [HW.out] at this)
      have hcz2 : ((c.toNat : Int) == 0) = false := by simp; omega
      have hk8 : k ≤ 8 := by omega
      have hkr : k ≤ r.length := by omega
      clear k8 hlen hcz
      go_quiet (fail)
      clear e1 e2 e5 e5' cc hcz2
      go_wp2_with fail
      go_loopw [7, 8] (fun v7 v8 wr => ∃ i q : Nat, i ≤ k ∧ v7 = .int .u64 (val (r.take i) : Int) ∧ v8 = .int .i64 (i : Int) ∧ w.drewN q = wr) (fun _ v8 _ => k - (intOf v8).toNat)
      case atStart => exact ⟨0, _, by omega, rfl, rfl, (jW _ _ _).symm⟩
      case round =>
       obtain ⟨i, q, hik, rfl, rfl, rfl⟩ := hrel
       by_cases hi : i < k
       ·have hir : i < r.length := by omega
        have hji : at_ + 1 + i < bs.length := by omega
        have HCI : Hid (bs[at_ + 1 + i] = r[i]) := zh (by simp [HRR.out])
        have cc : ∀ n, (w.drewN n).cell? ⟨bb, oo + (at_ + 1 + i), none⟩ = some (.int .u8 (r[i].toNat : Int)) := by rw [← HCI.out]; exact CELL.out (at_ + 1 + i) hji
        have HVS := zh (show val (r.take (i + 1)) = val (r.take i) * 256 + r[i].toNat from by rw [take_snoc hir, val_snoc])
        have hvl : val (r.take i) < 72057594037927936 := by
         have h1 := val_lt (r.take i)
         have h2 : 256 ^ (r.take i).length ≤ 256 ^ 7 := Nat.pow_le_pow_right (by omega) (by rw [zw]; omega)
         omega
        have hci := r[i].toNat_lt
        generalize r[i] = c at cc HVS hci
        have HMA := zh (mul_add (val (r.take i)) c.toNat hvl (by omega))
        have hi0 : (0 : Int) ≤ (i : Int) := by omega
        have hik2 : (i : Int) < (k : Int) := by omega
        have hsi : IntKind.i64.wrap ((at_ : Int) + 1 + (i : Int)) = (at_ : Int) + 1 + (i : Int) := zm _ (by omega)
        have hsj : (0 : Int) ≤ (at_ : Int) + 1 + (i : Int) := by omega
        have hsk : ((at_ : Int) + 1 + (i : Int)).toNat = at_ + 1 + i := by omega
        have hsl : (at_ : Int) + 1 + (i : Int) < (bs.length : Int) := by omega
        clear hvl hci
        go_wp2_with fail
        go_quiet (fail)
        go_wp2_with fail
        go_roundw
        case rel => exact ⟨i + 1, _, by omega, by rw [HVS.out, ← HMA.out], by go_num, rfl⟩
        case measure => simp [intOf]; omega
       ·obtain rfl : i = k := by omega
        go_wp2_with fail
        go_ret3
        refine ⟨val (r.take i), false, i + 1, q, rfl, rfl, .inr ⟨r.drop i, by rw [HY.out, HNG.out], by omega, by omega, ?_⟩⟩
        rw [HRR.out, List.drop_drop]
        congr 1
        omega
def RdrAt (w : World) (B g : Nat) (bs : List UInt8) (bad : Bool) : Prop :=
 ∃ A cap, Blk w g 144 #[.slice A bs.length cap, .bool bad] ∧ Rd w B A (bs.map bv) ∧ bs.length ≤ cap ∧ cap ≤ maxLen ∧ B ≤ g
theorem RdrAt.frm {w w' : World} {B g : Nat} {bs : List UInt8} {bad : Bool} {S : Nat → Prop} (h : RdrAt w B g bs bad) (hf : Frm S w w') (hg : ¬ S g) (hS : ∀ k, k < B → ¬ S k) : RdrAt w' B g bs bad := by
 obtain ⟨A, cap, h1, h2, h3, h4, h5⟩ := h
 exact ⟨A, cap, h1.frm hf hg, h2.frm (by have := h1.lt; omega) hf (fun p _ hp => hS _ hp), h3, h4, h5⟩
def caught : FrameMode := .panicking [{ v := .iface 181 (.agg #[]), recovered := true }]
theorem catch_panic (p g : Nat) (w : World) (x : Bool) (hp : w.cell? ⟨p, 0, none⟩ = some (.pointer (some ⟨g, 0, none⟩))) (hc : w.cell? ⟨g, 1, none⟩ = some (.bool x)) (hz : w.frozen? ⟨g, 1, none⟩ = false) :
 CallsD Tryz.prog 114 #[.pointer (some ⟨p, 0, none⟩)] (.panicking thrown) w fun e u' w' =>
  e = .returned (.tuple #[]) ∧ u' = caught ∧ w' = w.setCell ⟨g, 1, none⟩ (.bool true) := by
 refine callsD_of_wpS Tryz.func114 rfl fun c₀ cs hu => ?_
 unfold thrown at hu
 apply wpS_seq
 apply wpS_region
 simp [wpOpsS, go_sem, recoverD, hu, Tryz.ntmps114, Exit.thenS]
 apply wpS_seq
 apply wpS_region
 simp [wpOpsS, go_sem, Exit.thenS]
 refine wpS_cond (t := true) (by simp [Act.eval, Array.replicate]) ?_
 simp only [if_true]
 apply wpS_region
 simp [wpOpsS, go_sem, hp, hc, hz, bodyPostS, results, Tryz.results114, caught]
theorem catch_idle (p : Nat) (w : World) :
 CallsD Tryz.prog 114 #[.pointer (some ⟨p, 0, none⟩)] .returning w fun e u' w' => e = .returned (.tuple #[]) ∧ u' = .returning ∧ w' = w := by
 refine callsD_of_wpS Tryz.func114 rfl fun c₀ cs hu => ?_
 apply wpS_seq
 apply wpS_region
 simp [wpOpsS, go_sem, recoverD, hu, Tryz.ntmps114, Exit.thenS]
 apply wpS_seq
 apply wpS_region
 simp [wpOpsS, go_sem, Exit.thenS]
 refine wpS_cond (t := false) (by simp [Act.eval, Array.replicate]) ?_
 simp only [Bool.false_eq_true, if_false]
 refine wpS_of_wp (wp_skip ?_)
 cases c₀
 simp_all [bodyPostS, results, Tryz.results114]
def rd_ReadPost (w : World) (B gr go : Nat) (bs : List UInt8) (res : Option (List UInt8)) (Good : World → Prop) (e : Ending) (w' : World) : Prop :=
 e = .returned (.tuple #[]) ∧ match res with
  | some rest => RdrAt w' B gr rest false ∧ Good w' ∧ Frm (fun k => k = gr ∨ k = go) w w'
  | none => RdrAt w' B gr bs true ∧ Frm (fun k => k = gr) w w'
def OnePost (w : World) (B g go : Nat) (res : Option (List UInt8)) (Good : World → Prop) (e : Ending) (w' : World) : Prop :=
 match res with
  | some rest => e = .returned (.tuple #[]) ∧ (∃ A' cap', Lft w' B g A' cap' rest) ∧ Good w' ∧ Frm (fun k => k = g ∨ k = go) w w'
  | none => e = .panicked thrown ∧ Frm (fun k => k = g) w w'
structure One (f : Nat) (caps : Array Value) (W : World) (B go : Nat) (bs : List UInt8) (res : Option (List UInt8)) (Good : World → Prop) : Prop where
 enter : ∀ args w, (callFunc f args).run Tryz.prog w = .ok (.enter f args) w
 step : ∀ w g A cap, Fresh W w → W.heap.size ≤ g → Lft w B g A cap bs → Calls Tryz.prog f (#[.pointer (some ⟨g, 0, none⟩)] ++ caps) w fun e w' => OnePost w B g go res Good e w'
theorem read_bad (f : Nat) (caps : Array Value) (w : World) (B gr go : Nat) (bs : List UInt8) (Good : World → Prop) (h : RdrAt w B gr bs true) :
 Calls Tryz.prog 92 #[.pointer (some ⟨gr, 0, none⟩), .func (.func f) #[] caps] w fun e w' => rd_ReadPost w B gr go bs none Good e w' := by
 have hmf : ∀ (fn : Fn) (first cap : Array Value) (w : World), (Instr.makeFunc fn first cap).run Tryz.prog w = .ok (.func fn first cap) w := fun _ _ _ _ => rfl
 have H := zh h
 obtain ⟨A, cap, hb, hr, hle, hm, hBg⟩ := h
 have hc0 : w.cell? ⟨gr, 0, none⟩ = some (.slice A bs.length cap) := hb.cell 0
 have hc1 : w.cell? ⟨gr, 1, none⟩ = some (.bool true) := hb.cell 1
 have hf1 := hb.frozen 1
 have hlt := hb.lt
 have HB := zh hb
 have HR := zh hr
 clear hb hr
 go_enter_defers Tryz.func92, Tryz.ntmps92
 go_wp2_with fail
 refine (must_no _).mono ?_
 rintro e w1 ⟨rfl, rfl⟩
 go_wp2_with fail
 refine leaves_cons (f := 114) (args := #[.pointer (some ⟨w.heap.size, 0, none⟩)]) (by simp [thrown]) (by simp [go_sem]) ?_
 refine (catch_panic w.heap.size gr _ true ?_ ?_ ?_).mono ?_
 ·exact (Blk.new w _ _).cell 0
 ·exact (HB.out.alloc _).cell 1
 ·exact (HB.out.alloc _).frozen 1
 rintro e u' w'' ⟨rfl, rfl, rfl⟩
 have F : Frm (fun k => k = gr) w ((w.alloc (.cells #[.pointer (some ⟨gr, 0, none⟩)] 115)).setCell ⟨gr, 1, none⟩ (.bool true)) := ((za (fun k => k = gr) w).alloc _).setCell (p := ⟨gr, 1, none⟩) (fun _ => rfl) _
 have hb2 := ((HB.out.alloc (.cells #[.pointer (some ⟨gr, 0, none⟩)] 115)).set 1 (.bool true))
 have hfin : rd_ReadPost w B gr go bs none Good (.returned (.tuple #[])) ((w.alloc (.cells #[.pointer (some ⟨gr, 0, none⟩)] 115)).setCell ⟨gr, 1, none⟩ (.bool true)) :=
  ⟨rfl, ⟨A, cap, hb2, HR.out.frm (by omega) F (fun p _ hp e => by omega), hle, hm, hBg⟩, F⟩
 simp [Leaves, settle, caught, results, Tryz.results92, go_sem]
 exact hfin
theorem read_good (f : Nat) (caps : Array Value) (w : World) (B gr go : Nat) (bs : List UInt8) (res : Option (List UInt8)) (Good : World → Prop) (h : RdrAt w B gr bs false) (hgo : go < w.heap.size) (hne : go ≠ gr) (hgB : B ≤ go)
 (hone : One f caps w B go bs res Good) (hG : ∀ w2 w3, Frm (fun k => k = gr) w2 w3 → Good w2 → Good w3) :
 Calls Tryz.prog 92 #[.pointer (some ⟨gr, 0, none⟩), .func (.func f) #[] caps] w fun e w' => rd_ReadPost w B gr go bs res Good e w' := by
 have hmf : ∀ (fn : Fn) (first cap : Array Value) (w : World), (Instr.makeFunc fn first cap).run Tryz.prog w = .ok (.func fn first cap) w := fun _ _ _ _ => rfl
 have hen := hone.enter
 have HO := zh hone
 have HG := zh hG
 obtain ⟨A, cap, hb, hr, hle, hm, hBg⟩ := h
 have hc0 : w.cell? ⟨gr, 0, none⟩ = some (.slice A bs.length cap) := hb.cell 0
 have hc1 : w.cell? ⟨gr, 1, none⟩ = some (.bool false) := hb.cell 1
 have hf1 := hb.frozen 1
 have hf0 := hb.frozen 0
 have hlt := hb.lt
 have HB := zh hb
 have HR := zh hr
 clear hb hr hone hG
 go_enter_defers Tryz.func92, Tryz.ntmps92
 go_wp2_with fail
 refine (must_yes _).mono ?_
 rintro e w1 ⟨rfl, rfl⟩
 go_wp2_with fail
 have F0 : Fresh w ((w.alloc (.cells #[.pointer (some ⟨gr, 0, none⟩)] 115)).alloc (.cells #[.slice A bs.length cap] 39)) := ((za _ w).alloc _).alloc _
 have b1 : Blk ((w.alloc (.cells #[.pointer (some ⟨gr, 0, none⟩)] 115)).alloc (.cells #[.slice A bs.length cap] 39)) w.heap.size 115 #[.pointer (some ⟨gr, 0, none⟩)] := (Blk.new w _ _).alloc _
 have b2 : Blk ((w.alloc (.cells #[.pointer (some ⟨gr, 0, none⟩)] 115)).alloc (.cells #[.slice A bs.length cap] 39)) (w.heap.size + 1) 39 #[.slice A bs.length cap] := by
  have := Blk.new (w.alloc (.cells #[.pointer (some ⟨gr, 0, none⟩)] 115)) 39 #[.slice A bs.length cap]
  simpa using this
 have hl1 : Lft ((w.alloc (.cells #[.pointer (some ⟨gr, 0, none⟩)] 115)).alloc (.cells #[.slice A bs.length cap] 39)) B (w.heap.size + 1) A cap bs := ⟨b2, HR.out.fresh (by omega) F0, hle, hm, by omega⟩
 refine (HO.out.step _ (w.heap.size + 1) A cap F0 (by omega) hl1).mono ?_
 have b3 : Blk ((w.alloc (.cells #[.pointer (some ⟨gr, 0, none⟩)] 115)).alloc (.cells #[.slice A bs.length cap] 39)) gr 144 #[.slice A bs.length cap, .bool false] := HB.out.frm F0 (fun f => f)
 have HB1 := zh b1
 have HB3 := zh b3
 have HF0 := zh F0
 clear b1 b2 b3 F0 hl1 hc0 hc1 hf0 hf1
 cases res with
 | none =>
  rintro e w2 ⟨rfl, F2⟩
  have B1 := zh (HB1.out.frm F2 (show ¬ (w.heap.size = w.heap.size + 1) by omega))
  have B3 := zh (HB3.out.frm F2 (show ¬ (gr = w.heap.size + 1) by omega))
  have HF2 : Hid (Frm (fun k => k = gr) w w2) := zh (Fresh.frm (show Fresh w w2 from HF0.out.trans' F2 (fun i hi h => by omega)))
  clear F2 HB1 HB3
  go_wp2_with fail
  refine leaves_cons (f := 114) (args := #[.pointer (some ⟨w.heap.size, 0, none⟩)]) (by simp [thrown]) (by simp [go_sem]) ?_
  refine (catch_panic w.heap.size gr _ false ?_ ?_ ?_).mono ?_
  ·exact B1.out.cell 0
  ·exact B3.out.cell 1
  ·exact B3.out.frozen 1
  rintro e u' w'' ⟨rfl, rfl, rfl⟩
  have F : Frm (fun k => k = gr) w (w2.setCell ⟨gr, 1, none⟩ (.bool true)) := HF2.out.setCell (p := ⟨gr, 1, none⟩) (fun _ => rfl) _
  have hb2 := B3.out.set 1 (.bool true)
  have hfin : rd_ReadPost w B gr go bs none Good (.returned (.tuple #[])) (w2.setCell ⟨gr, 1, none⟩ (.bool true)) :=
   ⟨rfl, ⟨A, cap, hb2, HR.out.frm (by omega) F (fun p _ hp e => by omega), hle, hm, hBg⟩, F⟩
  simp [Leaves, settle, caught, results, Tryz.results92, go_sem]
  exact hfin
 | some rest =>
  rintro e w2 ⟨rfl, ⟨A', cap', hl2⟩, hg2, F2⟩
  have B1 := HB1.out.frm F2 (show ¬ (w.heap.size = w.heap.size + 1 ∨ w.heap.size = go) by omega)
  have B3 := HB3.out.frm F2 (show ¬ (gr = w.heap.size + 1 ∨ gr = go) by omega)
  have HF2 : Hid (Frm (fun k => k = gr ∨ k = go) w w2) := zh ((Fresh.frm (S := fun k => k = gr ∨ k = go) HF0.out).trans' F2 (fun i hi h => by omega))
  have k1 : w2.cell? ⟨w.heap.size, 0, none⟩ = some (.pointer (some ⟨gr, 0, none⟩)) := B1.cell 0
  have k2 : w2.cell? ⟨w.heap.size + 1, 0, none⟩ = some (.slice A' rest.length cap') := hl2.box.cell 0
  have k3 : w2.cell? ⟨gr, 0, none⟩ = some (.slice A bs.length cap) := B3.cell 0
  have k4 := B3.frozen 0
  have HL2 := zh hl2
  have HG2 := zh hg2
  have HB4 := zh B3
  clear F2 HB1 HB3 B1 B3 hl2 hg2
  go_wp2_with fail
  refine leaves_cons (f := 114) (args := #[.pointer (some ⟨w.heap.size, 0, none⟩)]) (by simp) (by simp [go_sem]) ?_
  refine (catch_idle w.heap.size _).mono ?_
  rintro e u' w'' ⟨rfl, rfl, rfl⟩
  have FS : Frm (fun k => k = gr) w2 (w2.setCell ⟨gr, 0, none⟩ (.slice A' rest.length cap')) := (za (fun k => k = gr) w2).setCell (p := ⟨gr, 0, none⟩) (fun _ => rfl) _
  have F : Frm (fun k => k = gr ∨ k = go) w (w2.setCell ⟨gr, 0, none⟩ (.slice A' rest.length cap')) := HF2.out.setCell (p := ⟨gr, 0, none⟩) (fun _ => .inl rfl) _
  have hfin : rd_ReadPost w B gr go bs (some rest) Good (.returned (.tuple #[])) (w2.setCell ⟨gr, 0, none⟩ (.slice A' rest.length cap')) :=
   ⟨rfl, ⟨A', cap', HB4.out.set 0 _, HL2.out.rd.frm (by have := HL2.out.box.lt; have := HL2.out.hB; omega) FS (fun p _ hp e => by omega), HL2.out.le, HL2.out.most, hBg⟩, HG.out _ _ FS HG2.out, F⟩
  simp [Leaves, settle, results, Tryz.results92, go_sem]
  exact hfin
theorem rd_enter_any {P : Program} {f : FuncId} {fn : Func} {c : Code} (hf : P.funcs[f]? = some fn) (hname : (fn.name == "runtime.NumGoroutine") = false) (hb : fn.body = some c) (args : Array Value) (w : World) :
 (callFunc f args).run P w = .ok (.enter f args) w := by
 have h1 : fn.name ≠ "runtime.NumGoroutine" := by simpa using hname
 simp [callFunc, hf, h1, hb]
def uv (n : Nat) : Value := .int .u64 (n : Int)
theorem fresh_blk {W w : World} {g : Nat} {t : TypeId} {cs : Array Value} (h : Blk W g t cs) (F : Fresh W w) : Blk w g t cs := h.frm F (fun f => f)
theorem one_number (W : World) (B g1 g2 : Nat) (bs : List UInt8) (most : Nat) (hm : most < 18446744073709551616) (h1 : Blk W g1 101 #[uv most]) (h2 : Blk W g2 101 #[uv 0]) (hB2 : B ≤ g2) :
 One 97 #[.pointer (some ⟨g1, 0, none⟩), .pointer (some ⟨g2, 0, none⟩)] W B g2 bs ((qG most bs).map (·.2)) (fun w' => ∀ x, qG most bs = some x → Blk w' g2 101 #[uv x.1]) where
 enter := fun args w => rd_enter_any (P := Tryz.prog) (f := 97) Tryz.func97 (by kernel_rfl) rfl args w
 step := fun w g A cap F hg hl => by
  have b1 := fresh_blk h1 F
  have b2 := fresh_blk h2 F
  have hg1 : g1 ≠ g := by have := h1.lt; omega
  have hg2 : g2 ≠ g := by have := h2.lt; omega
  have HB1 := zh b1
  have HB2 := zh b2
  have HL := zh hl
  clear b1 b2 hl h1 h2
  show Calls _ _ #[_, _, _] _ _
  go_in
  go_wp2_with fail
  refine (size_any w B g A cap bs HL.out).mono ?_
  intro e w1 hsz
  cases hd : dec bs with
  | none =>
   unfold SizeWay at hsz
   rw [hd] at hsz
   obtain ⟨rfl, F1⟩ := hsz
   have HR := zh (show qG most bs = none from by rw [qG, hd])
   clear hd
   have HF1 := zh F1
   clear F1
   go_wp2_with fail
   refine ⟨rfl, ?_⟩
   rw [HR.out]
   exact ⟨rfl, HF1.out⟩
  | some x =>
   obtain ⟨n, m, rest⟩ := x
   unfold SizeWay at hsz
   rw [hd] at hsz
   obtain ⟨A1, cap1, rfl, hl1, F1⟩ := hsz
   have hn := dec_lt hd
   have HD := zh hd
   have HL1 := zh hl1
   have HF1 := zh F1
   have c1 : w1.cell? ⟨g1, 0, none⟩ = some (.int .u64 (most : Int)) := (HB1.out.frm F1 hg1).cell 0
   have c2 : w1.cell? ⟨g2, 0, none⟩ = some (.int .u64 0) := (HB2.out.frm F1 hg2).cell 0
   have z2 := (HB2.out.frm F1 hg2).frozen 0
   have HB2' := zh (HB2.out.frm F1 hg2)
   clear hd hl1 F1
   cases m with
   | true =>
    have HR := zh (show qG most bs = none from by rw [qG, HD.out])
    go_wp2_with fail
    refine (must_no _).mono ?_
    rintro e w2 ⟨rfl, rfl⟩
    go_wp2_with fail
    refine ⟨rfl, ?_⟩
    rw [HR.out]
    exact ⟨rfl, HF1.out⟩
   | false =>
    by_cases hle : n ≤ most
    ·have HR := zh (show qG most bs = some (n, rest) from by rw [qG, HD.out]; exact zl hle)
     have d1 : decide (n ≤ most) = true := by simpa using hle
     go_wp2_with fail
     refine (must_yes _).mono ?_
     rintro e w2 ⟨rfl, rfl⟩
     go_wp2_with fail
     go_end0
     have FS : Frm (fun k => k = g ∨ k = g2) w (w2.setCell ⟨g2, 0, none⟩ (.int .u64 (n : Int))) := (HF1.out.mono (fun _ _ h => .inl h)).setCell (p := ⟨g2, 0, none⟩) (fun _ => .inr rfl) _
     rw [HR.out]
     refine ⟨rfl, ⟨A1, cap1, HL1.out.box.far (by show g ≠ g2; omega) _, ?_, HL1.out.le, HL1.out.most, HL1.out.hB⟩, ?_, FS⟩
     ·exact HL1.out.rd.frm (by have := HL1.out.box.lt; have := HL1.out.hB; omega) ((za (fun k => k = g2) w2).setCell (p := ⟨g2, 0, none⟩) (fun _ => rfl) _) (fun p _ hp e => by omega)
     ·intro x hx
      cases hx
      exact HB2'.out.set 0 _
    ·have HR := zh (show qG most bs = none from by rw [qG, HD.out]; exact zk hle)
     have d1 : decide (n ≤ most) = false := by simpa using hle
     go_wp2_with fail
     refine (must_no _).mono ?_
     rintro e w2 ⟨rfl, rfl⟩
     go_wp2_with fail
     refine ⟨rfl, ?_⟩
     rw [HR.out]
     exact ⟨rfl, HF1.out⟩
theorem readPost_none {w : World} {B gr go : Nat} {bs : List UInt8} {Good : World → Prop} {e : Ending} {w' : World} (h : rd_ReadPost w B gr go bs none Good e w') : e = .returned (.tuple #[]) ∧ RdrAt w' B gr bs true ∧ Frm (fun k => k = gr) w w' := h
theorem readPost_some {w : World} {B gr go : Nat} {bs rest : List UInt8} {Good : World → Prop} {e : Ending} {w' : World} (h : rd_ReadPost w B gr go bs (some rest) Good e w') : e = .returned (.tuple #[]) ∧ RdrAt w' B gr rest false ∧ Good w' ∧ Frm (fun k => k = gr ∨ k = go) w w' := h
def NumPost (w : World) (B gr : Nat) (bs : List UInt8) (res : Option (Nat × List UInt8)) (e : Ending) (w' : World) : Prop :=
 e = .returned (uv (match res with | some x => x.1 | none => 0)) ∧ RdrAt w' B gr (match res with | some x => x.2 | none => bs) res.isNone ∧ Frm (fun k => k = gr) w w'
def ifGood {α : Type} (bad : Bool) (r : Option α) : Option α := if bad then none else r
theorem readNumber_any (w : World) (B gr : Nat) (bs : List UInt8) (bad : Bool) (most : Nat) (hm : most < 18446744073709551616) (h : RdrAt w B gr bs bad) :
 Calls Tryz.prog 77 #[.pointer (some ⟨gr, 0, none⟩), .int .u64 (most : Int)] w fun e w' => NumPost w B gr bs (ifGood bad (qG most bs)) e w' := by
 have H := zh h
 have hlt : gr < w.heap.size := by obtain ⟨_, _, hb, _⟩ := h; exact hb.lt
 have hB : B ≤ gr := by obtain ⟨_, _, _, _, _, _, hB⟩ := h; exact hB
 clear h
 have hmf : ∀ (fn : Fn) (first cap : Array Value) (w : World), (Instr.makeFunc fn first cap).run Tryz.prog w = .ok (.func fn first cap) w := fun _ _ _ _ => rfl
 go_in
 go_wp2_with fail
 have F0 : Fresh w ((w.alloc (.cells #[uv most] 101)).alloc (.cells #[uv 0] 101)) := ((za _ w).alloc _).alloc _
 have b1 : Blk ((w.alloc (.cells #[uv most] 101)).alloc (.cells #[uv 0] 101)) w.heap.size 101 #[uv most] := (Blk.new w _ _).alloc _
 have b2 : Blk ((w.alloc (.cells #[uv most] 101)).alloc (.cells #[uv 0] 101)) (w.heap.size + 1) 101 #[uv 0] := by
  have := Blk.new (w.alloc (.cells #[uv most] 101)) 101 #[uv 0]
  simpa using this
 have hr := H.out.frm F0 (fun f => f) (fun _ _ f => f)
 cases bad with
 | true =>
  refine (read_bad 97 #[.pointer (some ⟨w.heap.size, 0, none⟩), .pointer (some ⟨w.heap.size + 1, 0, none⟩)] _ B gr (w.heap.size + 1) bs (fun _ => True) hr).mono ?_
  intro e w2 h2
  obtain ⟨rfl, h3, F3⟩ := readPost_none h2
  have c2 : w2.cell? ⟨w.heap.size + 1, 0, none⟩ = some (.int .u64 0) := (b2.frm F3 (show ¬ (w.heap.size + 1 = gr) by omega)).cell 0
  have H3 := zh h3
  have HF3 := zh ((Fresh.frm (S := fun k => k = gr) F0).trans F3)
  clear h2 h3 F3 F0 b1 b2 hr
  go_wp2_with fail
  go_ret
  exact ⟨rfl, H3.out, HF3.out⟩
 | false =>
  have hone := one_number _ B w.heap.size (w.heap.size + 1) bs most hm b1 b2 (by omega)
  refine (read_good 97 #[.pointer (some ⟨w.heap.size, 0, none⟩), .pointer (some ⟨w.heap.size + 1, 0, none⟩)] _ B gr (w.heap.size + 1) bs _ _ hr b2.lt (by omega) (by omega) hone (fun w2 w3 hf hg x hx => (hg x hx).frm hf (show ¬ (w.heap.size + 1 = gr) by omega))).mono ?_
  intro e w2 h2
  cases hres : qG most bs with
  | none =>
   rw [hres] at h2
   obtain ⟨rfl, h3, F3⟩ := readPost_none h2
   have c2 : w2.cell? ⟨w.heap.size + 1, 0, none⟩ = some (.int .u64 0) := (b2.frm F3 (show ¬ (w.heap.size + 1 = gr) by omega)).cell 0
   have H3 := zh h3
   have HF3 := zh ((Fresh.frm (S := fun k => k = gr) F0).trans F3)
   have HRES := zh hres
   clear h2 h3 F3 F0 b1 b2 hr hone hres
   go_wp2_with fail
   go_ret
   rw [HRES.out]
   exact ⟨rfl, H3.out, HF3.out⟩
  | some x =>
   rw [hres] at h2
   obtain ⟨rfl, h3, hg, F3⟩ := readPost_some h2
   have c2 : w2.cell? ⟨w.heap.size + 1, 0, none⟩ = some (.int .u64 (x.1 : Int)) := (hg x rfl).cell 0
   have H3 := zh h3
   have HF3 := zh ((Fresh.frm (S := fun k => k = gr) F0).trans' F3 (fun i hi h => by omega))
   have HRES := zh hres
   clear h2 h3 F3 F0 b1 b2 hr hone hres hg
   go_wp2_with fail
   go_ret
   rw [HRES.out]
   exact ⟨rfl, H3.out, HF3.out⟩
def lv (n : Int) : Value := .int .i64 n
theorem rd_nil_no (w : World) (a : Addr) (n c : Nat) : (binOp .eql 39 (.slice (some a) n c) (.slice none 0 0)).run Tryz.prog w = .ok (.bool false) w := by
 first | rfl | kernel_rfl | (simp [binOp, go_sem, Tryz.underlying39])
theorem nil_yes (w : World) (n c : Nat) : (binOp .eql 39 (.slice none n c) (.slice none 0 0)).run Tryz.prog w = .ok (.bool true) w := by
 first | rfl | kernel_rfl | (simp [binOp, go_sem, Tryz.underlying39])
theorem rd_clone_any (w : World) (B : Nat) (A : Option Addr) (cap : Nat) (bs : List UInt8) (hr : Rd w B A (bs.map bv)) (hB : B ≤ w.heap.size) (hl : bs.length ≤ 140737488355328) (hc : bs.length ≤ cap) (hm : cap ≤ maxLen) :
 Calls Tryz.prog 18 #[.slice A bs.length cap] w fun e w' => ∃ v, e = .returned v ∧ Sl w' w.heap.size 5 1 v bs.length (bs.map bv) ∧ Fresh w w' := by
 obtain ⟨i0, hi, hz0, hz1, hz2⟩ := info_parts info_u8
 unfold maxLen at hm
 have HR := zh hr
 cases A with
 | none =>
  have hb : bs = [] := by
   cases bs with
   | nil => rfl
   | cons b r => obtain ⟨_, _, h, _⟩ := hr.at_ (k := 0) (by simp); cases h
  subst hb
  clear hr
  have hnn := fun w n c => nil_yes w n c
  go_in
  go_wp2_with fail
  go_ret
  exact ⟨_, rfl, Sl.nil _ _ _ _, za _ _⟩
 | some a =>
  clear hr
  have hnn := fun w n c => rd_nil_no w a n c
  go_in
  have S0 := zh (show Sl (w.alloc (.cells #[] 5)) w.heap.size 5 1 (.slice (some ⟨w.heap.size, 0, none⟩) 0 0) 0 [] from sl_new w _ [] _ (zf _) (by simp [maxLen]))
  have f0 : Fresh w (w.alloc (.cells #[] 5)) := (za _ w).alloc _
  go_wp2_with (first
   | (at_builtin; refine jD _ rfl (.tmp 5) (.tmp 6) _ rfl w.heap.size 5 i0 _ 1 1 Tryz.underlying39 hi hz0 hz1 hz2 rfl (by omega) _ _ _ rfl S0.out _ _ _ _ _ rfl (by simp) (HR.out.alloc (by omega) _) (bv_one _) (by unfold maxLen; omega) (by omega) (by simp) ?_; intro v1 w2 hs1 hf1 ha1))
  have F2 : Fresh w w2 := f0.trans' hf1 (fun i hi hk => by have := own_at hk; omega)
  rw [Nat.zero_add, List.nil_append] at hs1
  go_wp2_with fail
  go_ret
  exact ⟨v1, rfl, hs1, F2⟩
theorem rdr_new (w : World) (B : Nat) (A : Option Addr) (cap : Nat) (bs : List UInt8) (hr : Rd w B A (bs.map bv)) (hB : B ≤ w.heap.size) (hl : bs.length ≤ 140737488355328) (hc : bs.length ≤ cap) (hm : cap ≤ maxLen) :
 Calls Tryz.prog 55 #[.slice A bs.length cap] w fun e w' => ∃ g, e = .returned (.pointer (some ⟨g, 0, none⟩)) ∧ RdrAt w' g g bs false ∧ Fresh w w' ∧ w.heap.size ≤ g := by
 have HR := zh hr
 clear hr
 go_in
 go_wp2_with fail
 refine (rd_clone_any w B A cap bs HR.out hB hl hc hm).mono ?_
 rintro e w1 ⟨v, rfl, hs, F1⟩
 obtain ⟨A1, cap1, rfl, h1, h2, _⟩ := hs.shape
 have HS := zh hs
 clear hs
 go_wp2_with fail
 go_ret
 refine ⟨w1.heap.size, rfl, ⟨A1, cap1, Blk.new w1 _ _, ?_, h1, h2, zf _⟩, F1.alloc _, F1.size⟩
 exact HS.out.rd.alloc (zf _) _
def wholeB (bs : List UInt8) (bad : Bool) : Bool := !bad && bs.isEmpty
theorem whole_any (w : World) (B g : Nat) (bs : List UInt8) (bad : Bool) (h : RdrAt w B g bs bad) : Calls Tryz.prog 62 #[.pointer (some ⟨g, 0, none⟩)] w fun e w' => e = .returned (.bool (wholeB bs bad)) ∧ w = w' := by
 obtain ⟨A, cap, hb, _⟩ := h
 have hc : w.cell? ⟨g, 1, none⟩ = some (.bool bad) := hb.cell 1
 have hc0 : w.cell? ⟨g, 0, none⟩ = some (.slice A bs.length cap) := hb.cell 0
 clear hb
 cases bad with
 | true =>
  go_in
  go_wp2_with fail
  go_ret
  exact ⟨rfl, rfl⟩
 | false =>
  cases bs with
  | nil =>
   go_in
   go_wp2_with fail
   go_ret
   exact ⟨rfl, rfl⟩
  | cons b r =>
   have d1 : (((b :: r).length : Int) == 0) = false := by simp; omega
   simp only [zG] at hc0 d1
   go_in
   go_wp2_with fail
   go_ret
   exact ⟨rfl, rfl⟩
end
end Go.Proofs.YtnmokpbomeamfaaGreat

/- What the reference's reader computes: next. (Printed by gen8.py.) -/
import Derived.Test.YthofodjklogfgaaRead2
import Derived.Deep.QuietTactic
import Derived.BigQuiet
namespace Go.Proofs.Ythofodjklogfgaa
open Go.RowKit ReadM

/-- the reference's reader in memory -/
def RefAt (w : World) (B g : Nat) (bs : List UInt8) (at_ : Nat) (amis : Bool) : Prop :=
  ∃ A cap, Blk w g 79 #[.slice A bs.length cap, .int .i64 (at_ : Int), .bool amis] ∧ Rd w B A (bs.map bv) ∧ bs.length ≤ cap ∧ cap ≤ maxLen ∧ B ≤ g
theorem RefAt.frm {w w' : World} {B g : Nat} {bs : List UInt8} {at_ : Nat} {amis : Bool} {S : Nat → Prop} (h : RefAt w B g bs at_ amis) (hf : Frm S w w') (hg : ¬ S g) (hS : ∀ k, k < B → ¬ S k) : RefAt w' B g bs at_ amis := by
  obtain ⟨A, cap, h1, h2, h3, h4, h5⟩ := h
  exact ⟨A, cap, h1.frm hf hg, h2.frm (by have := h1.lt; omega) hf (fun p _ hp => hS _ hp), h3, h4, h5⟩
/-- what stands next -/
def rdec (amis : Bool) (bs : List UInt8) (at_ : Nat) : Option (Nat × Bool × List UInt8) := if amis then none else dec (bs.drop at_)
def NextPost (w : World) (bs : List UInt8) (at_ : Nat) (r : Option (Nat × Bool × List UInt8)) (e : Ending) (w' : World) : Prop :=
  ∃ (n : Nat) (m : Bool) (k q : Nat), e = .returned (.tuple #[.int .u64 (n : Int), .bool m, .int .i64 (k : Int)]) ∧ w' = w.drewN q ∧
    ((r = none ∧ n = 0 ∧ m = false ∧ k = 0) ∨ (∃ rest, r = some (n, m, rest) ∧ 0 < k ∧ at_ + k ≤ bs.length ∧ rest = bs.drop (at_ + k)))
theorem drewN_add (w : World) (k n : Nat) : (w.drewN k).drewN n = w.drewN (k + n) := by simp [World.drewN, Nat.add_assoc]
theorem mul_add (v c : Nat) (hv : v < 72057594037927936) (hc : c < 256) : IntKind.u64.wrap (IntKind.u64.wrap ((v : Int) * 256) + IntKind.u64.wrap (c : Int)) = ((v * 256 + c : Nat) : Int) := by
  rw [IntKind.wrap_u64, IntKind.wrap_u64, IntKind.wrap_u64]; omega

set_option maxRecDepth 100000 in
set_option maxHeartbeats 4000000 in
theorem next_any (w : World) (B g : Nat) (bs : List UInt8) (at_ : Nat) (amis : Bool) (hat : at_ ≤ bs.length) (hbl : bs.length ≤ 140737488355328) (h : RefAt w B g bs at_ amis) :
    Calls Try.prog 63 #[.pointer (some ⟨g, 0, none⟩)] w fun e w' => NextPost w bs at_ (rdec amis bs at_) e w' := by
  obtain ⟨A, cap, hb, hrd, hle, hmost, _⟩ := h
  have hc2 : w.cell? ⟨g, 2, none⟩ = some (.bool amis) := hb.cell 2
  have hd1 : ∀ n, (w.drewN n).cell? ⟨g, 1, none⟩ = some (.int .i64 (at_ : Int)) := fun _ => hb.cell 1
  have hd0 : ∀ n, (w.drewN n).cell? ⟨g, 0, none⟩ = some (.slice A bs.length cap) := fun _ => hb.cell 0
  have hd2 : ∀ n, (w.drewN n).cell? ⟨g, 2, none⟩ = some (.bool amis) := fun _ => hb.cell 2
  have hc0 : w.cell? ⟨g, 0, none⟩ = some (.slice A bs.length cap) := hb.cell 0
  have hc1 : w.cell? ⟨g, 1, none⟩ = some (.int .i64 (at_ : Int)) := hb.cell 1
  have HR := Lib.hid hrd
  unfold maxLen at hmost
  clear hb hrd
  cases amis with
  | true =>
    go_enter Try.func63, Try.ntmps63
    go_wp2_with fail
    go_quiet (fail)
    go_wp2_with fail
    go_ret3
    exact ⟨0, false, 0, _, rfl, rfl, .inl ⟨rfl, rfl, rfl, rfl⟩⟩
  | false =>
    by_cases hat2 : at_ = bs.length
    · have HD := Lib.hid (show rdec false bs at_ = none from by rw [rdec, if_neg (by simp), hat2, List.drop_length]; rfl)
      have d1 : decide (bs.length ≤ at_) = true := by simp; omega
      clear hat2
      go_enter Try.func63, Try.ntmps63
      go_wp2_with fail
      go_quiet (fail)
      go_wp2_with fail
      go_ret3
      exact ⟨0, false, 0, _, rfl, rfl, .inl ⟨HD.out, rfl, rfl, rfl⟩⟩
    · have hlt : at_ < bs.length := by omega
      have hlti : (at_ : Int) < (bs.length : Int) := by omega
      have hat0 : (0 : Int) ≤ at_ := by omega
      have d1 : decide (bs.length ≤ at_) = false := by simp; omega
      obtain ⟨bb, oo, hA, _, hcA⟩ := HR.out.at_ (k := at_) (by simpa using hlt)
      subst hA
      have CELL : Hid (∀ j (hj : j < bs.length) n, (w.drewN n).cell? ⟨bb, oo + j, none⟩ = some (.int .u8 (bs[j].toNat : Int))) := Lib.hid (by
        intro j hj n
        obtain ⟨b2, o2, hA2, _, hc⟩ := HR.out.at_ (k := j) (by simpa using hj)
        injection hA2 with hA2
        injection hA2 with e1 e2
        subst e1 e2
        rw [List.getElem_map] at hc
        exact hc)
      clear hcA
      have hbd : bs[at_].toNat < 256 := bs[at_].toNat_lt
      have HDR := Lib.hid (List.drop_eq_getElem_cons hlt)
      obtain ⟨b, hbe⟩ : ∃ b, b = bs[at_] := ⟨_, rfl⟩
      have cb : ∀ n, (w.drewN n).cell? ⟨bb, oo + at_, none⟩ = some (.int .u8 (b.toNat : Int)) := by rw [hbe]; exact CELL.out at_ hlt
      rw [← hbe] at hbd HDR
      have HBE := Lib.hid hbe
      clear hbe
      obtain ⟨r, hr⟩ : ∃ r, r = bs.drop (at_ + 1) := ⟨_, rfl⟩
      rw [← hr] at HDR
      have hrl : r.length = bs.length - (at_ + 1) := by rw [hr, List.length_drop]
      have HRR := Lib.hid hr
      have HRL := Lib.hid hrl
      clear hr hrl
      have HDEC := Lib.hid (show rdec false bs at_ = dec (b :: r) from by rw [rdec, if_neg (by simp), HDR.out])
      have hw1 : IntKind.i64.wrap ((at_ : Int) + 1) = (at_ : Int) + 1 := IntWalk.i64_in _ (by omega)
      by_cases hn : 16 ≤ b.toNat
      · obtain ⟨k, hk⟩ : ∃ k, b.toNat = k + 16 := ⟨b.toNat - 16, by omega⟩
        have hwid : wid b = k := by unfold wid; rw [if_pos hn]; omega
        have hneg : neg b = true := by unfold neg; simpa using hn
        have hkb : k ≤ 239 := by omega
        have hkk : (b.toNat : Int) = (k : Int) + 16 := by omega
        have hok : okHead b = (decide (k ≤ 8) && decide (0 < k)) := by
          unfold okHead
          rw [hwid, hneg, hk]
          by_cases q1 : k ≤ 8 <;> by_cases q2 : 0 < k <;> simp [q1, q2] <;> omega
        rw [hkk] at cb
        have hg16 : (16 : Int) ≤ (k : Int) + 16 := by omega
        have HW := Lib.hid hwid
        have HNG := Lib.hid hneg
        have HOK := Lib.hid hok
        clear hwid hneg hok hk hkk hn hbd
        go_enter Try.func63, Try.ntmps63
        go_wp2_with fail
        go_quiet (fail)
        go_wp2_with fail
        go_quiet (fail)
        go_wp2_with fail
        have hs1 : IntKind.i64.wrap ((at_ : Int) + 1 + (k : Int)) = (at_ : Int) + 1 + (k : Int) := IntWalk.i64_in _ (by omega)
        have hs0 : (0 : Int) ≤ (at_ : Int) + 1 := by omega
        have hs2 : ((at_ : Int) + 1).toNat = at_ + 1 := by omega
        have hk00 : (0 : Int) ≤ (k : Int) := by omega
        by_cases k8 : 8 < k
        · have HN := Lib.hid (show rdec false bs at_ = none from by rw [HDEC.out]; exact dec_none (.inl (by rw [HOK.out]; simp; omega)))
          have e1 : decide (8 < (k : Int)) = true := by simp; omega
          have e2 : (8 : Int) < (k : Int) := by omega
          go_quiet (fail)
          go_wp2_with fail
          go_ret3
          exact ⟨0, false, 0, _, rfl, drewN_add _ _ _, .inl ⟨HN.out, rfl, rfl, rfl⟩⟩
        have e1 : decide (8 < (k : Int)) = false := by simp; omega
        by_cases hlen : r.length < k
        · have HN := Lib.hid (show rdec false bs at_ = none from by rw [HDEC.out]; exact dec_none (.inr (.inl (by rw [HW.out]; exact hlen))))
          have hrl2 := HRL.out
          have e2 : decide ((bs.length : Int) < (at_ : Int) + 1 + (k : Int)) = true := by simp; omega
          have e3 : (bs.length : Int) < (at_ : Int) + 1 + (k : Int) := by omega
          go_quiet (fail)
          go_wp2_with fail
          go_ret3
          exact ⟨0, false, 0, _, rfl, drewN_add _ _ _, .inl ⟨HN.out, rfl, rfl, rfl⟩⟩
        have hrl2 := HRL.out
        have e2 : decide ((bs.length : Int) < (at_ : Int) + 1 + (k : Int)) = false := by simp; omega
        rcases Nat.eq_zero_or_pos k with hz | hz
        · have HN := Lib.hid (show rdec false bs at_ = none from by rw [HDEC.out]; exact dec_none (.inl (by rw [HOK.out, hz]; rfl)))
          have e5 : decide (0 < (k : Int)) = false := by simp; omega
          have e5' : ((k : Int) == 0) = true := by simp; omega
          clear hz
          go_quiet (fail)
          go_wp2_with fail
          go_ret3
          exact ⟨0, false, 0, _, rfl, drewN_add _ _ _, .inl ⟨HN.out, rfl, rfl, rfl⟩⟩
        · have e5 : decide (0 < (k : Int)) = true := by simp; omega
          have e5' : ((k : Int) == 0) = false := by simp; omega
          have hj : at_ + 1 < bs.length := by omega
          have hrne : 0 < r.length := by omega
          have HC1 : Hid (bs[at_ + 1] = r[0]) := Lib.hid (by simp [HRR.out])
          have cc : ∀ n, (w.drewN n).cell? ⟨bb, oo + (at_ + 1), none⟩ = some (.int .u8 (r[0].toNat : Int)) := by rw [← HC1.out]; exact CELL.out (at_ + 1) hj
          have hlti2 : (at_ : Int) + 1 < (bs.length : Int) := by omega
          have htk0 : ∃ t, r.take k = r[0] :: t := ⟨(r.take k).drop 1, by
            have := List.drop_eq_getElem_cons (l := r.take k) (i := 0) (by rw [List.length_take]; omega)
            simpa using this⟩
          have HTK0 := Lib.hid htk0
          have hc0b := r[0].toNat_lt
          generalize r[0] = c at cc HTK0 hc0b
          clear htk0
          rcases Nat.eq_zero_or_pos c.toNat with hcz | hcz
          · have HN := Lib.hid (show rdec false bs at_ = none from by
              rw [HDEC.out]
              refine dec_none (.inr (.inr ?_))
              rw [HW.out]
              obtain ⟨t, ht⟩ := HTK0.out
              rw [ht, lean, hcz]
              rfl)
            rw [hcz] at cc
            clear hcz hc0b
            go_quiet (fail)
            go_wp2_with fail
            go_ret3
            exact ⟨0, false, 0, _, rfl, drewN_add _ _ _, .inl ⟨HN.out, rfl, rfl, rfl⟩⟩
          · have HLN := Lib.hid (show lean (r.take k) = true from by
              obtain ⟨t, ht⟩ := HTK0.out
              rw [ht, lean]
              simpa using hcz)
            have HY := Lib.hid (show rdec false bs at_ = some (val (r.take k), neg b, r.drop k) from by
              rw [HDEC.out]
              have := dec_some (b := b) (r := r) (by rw [HOK.out]; simp; omega) (by rw [HW.out]; omega) (by rw [HW.out]; exact HLN.out)
              rwa [HW.out] at this)
            have hcz2 : ((c.toNat : Int) == 0) = false := by simp; omega
            have hk8 : k ≤ 8 := by omega
            have hkr : k ≤ r.length := by omega
            clear k8 hlen hcz
            go_quiet (fail)
            clear e1 e2 e5 e5' cc hcz2
            go_wp2_with fail
            go_loopw [7, 8] (fun v7 v8 wr => ∃ i q : Nat, i ≤ k ∧ v7 = .int .u64 (val (r.take i) : Int) ∧ v8 = .int .i64 (i : Int) ∧ w.drewN q = wr) (fun _ v8 _ => k - (intOf v8).toNat)
            case atStart => exact ⟨0, _, by omega, rfl, rfl, (drewN_add _ _ _).symm⟩
            case round =>
              obtain ⟨i, q, hik, rfl, rfl, rfl⟩ := hrel
              by_cases hi : i < k
              · have hir : i < r.length := by omega
                have hji : at_ + 1 + i < bs.length := by omega
                have HCI : Hid (bs[at_ + 1 + i] = r[i]) := Lib.hid (by simp [HRR.out])
                have cc : ∀ n, (w.drewN n).cell? ⟨bb, oo + (at_ + 1 + i), none⟩ = some (.int .u8 (r[i].toNat : Int)) := by rw [← HCI.out]; exact CELL.out (at_ + 1 + i) hji
                have HVS := Lib.hid (show val (r.take (i + 1)) = val (r.take i) * 256 + r[i].toNat from by rw [take_snoc hir, val_snoc])
                have hvl : val (r.take i) < 72057594037927936 := by
                  have h1 := val_lt (r.take i)
                  have h2 : 256 ^ (r.take i).length ≤ 256 ^ 7 := Nat.pow_le_pow_right (by omega) (by rw [List.length_take]; omega)
                  omega
                have hci := r[i].toNat_lt
                generalize r[i] = c at cc HVS hci
                have HMA := Lib.hid (mul_add (val (r.take i)) c.toNat hvl (by omega))
                have hi0 : (0 : Int) ≤ (i : Int) := by omega
                have hik2 : (i : Int) < (k : Int) := by omega
                have hsi : IntKind.i64.wrap ((at_ : Int) + 1 + (i : Int)) = (at_ : Int) + 1 + (i : Int) := IntWalk.i64_in _ (by omega)
                have hsj : (0 : Int) ≤ (at_ : Int) + 1 + (i : Int) := by omega
                have hsk : ((at_ : Int) + 1 + (i : Int)).toNat = at_ + 1 + i := by omega
                have hsl : (at_ : Int) + 1 + (i : Int) < (bs.length : Int) := by omega
                clear hvl hci
                go_wp2_with fail
                go_quiet (fail)
                go_wp2_with fail
                go_roundw
                case rel => exact ⟨i + 1, _, by omega, by rw [HVS.out, ← HMA.out], by go_num, rfl⟩
                case measure => simp [intOf]; omega
              · obtain rfl : i = k := by omega
                go_wp2_with fail
                go_ret3
                refine ⟨val (r.take i), true, i + 1, q, rfl, rfl, .inr ⟨r.drop i, by rw [HY.out, HNG.out], by omega, by omega, ?_⟩⟩
                rw [HRR.out, List.drop_drop]
                congr 1
                omega
      · have hwid : wid b = b.toNat := by unfold wid; rw [if_neg hn]
        have hneg : neg b = false := by unfold neg; simpa using hn
        obtain ⟨k, hk⟩ : ∃ k, k = b.toNat := ⟨_, rfl⟩
        rw [← hk] at hwid
        have hok : okHead b = decide (k ≤ 8) := by
          unfold okHead
          rw [hwid, hneg, ← hk]
          by_cases q1 : k ≤ 8 <;> simp [q1] <;> omega
        have hkb : k ≤ 15 := by omega
        have hn' : (k : Int) < 16 := by omega
        have hng : decide ((16 : Int) ≤ (k : Int)) = false := by simp; omega
        rw [← hk] at cb
        have HW := Lib.hid hwid
        have HNG := Lib.hid hneg
        have HOK := Lib.hid hok
        clear hwid hneg hok hk hn hbd
        go_enter Try.func63, Try.ntmps63
        go_wp2_with fail
        go_quiet (fail)
        go_wp2_with fail
        go_quiet (fail)
        go_wp2_with fail
        have hs1 : IntKind.i64.wrap ((at_ : Int) + 1 + (k : Int)) = (at_ : Int) + 1 + (k : Int) := IntWalk.i64_in _ (by omega)
        have hs0 : (0 : Int) ≤ (at_ : Int) + 1 := by omega
        have hs2 : ((at_ : Int) + 1).toNat = at_ + 1 := by omega
        have hk00 : (0 : Int) ≤ (k : Int) := by omega
        by_cases k8 : 8 < k
        · have HN := Lib.hid (show rdec false bs at_ = none from by rw [HDEC.out]; exact dec_none (.inl (by rw [HOK.out]; simp; omega)))
          have e1 : decide (8 < (k : Int)) = true := by simp; omega
          have e2 : (8 : Int) < (k : Int) := by omega
          go_quiet (fail)
          go_wp2_with fail
          go_ret3
          exact ⟨0, false, 0, _, rfl, drewN_add _ _ _, .inl ⟨HN.out, rfl, rfl, rfl⟩⟩
        have e1 : decide (8 < (k : Int)) = false := by simp; omega
        by_cases hlen : r.length < k
        · have HN := Lib.hid (show rdec false bs at_ = none from by rw [HDEC.out]; exact dec_none (.inr (.inl (by rw [HW.out]; exact hlen))))
          have hrl2 := HRL.out
          have e2 : decide ((bs.length : Int) < (at_ : Int) + 1 + (k : Int)) = true := by simp; omega
          have e3 : (bs.length : Int) < (at_ : Int) + 1 + (k : Int) := by omega
          go_quiet (fail)
          go_wp2_with fail
          go_ret3
          exact ⟨0, false, 0, _, rfl, drewN_add _ _ _, .inl ⟨HN.out, rfl, rfl, rfl⟩⟩
        have hrl2 := HRL.out
        have e2 : decide ((bs.length : Int) < (at_ : Int) + 1 + (k : Int)) = false := by simp; omega
        rcases Nat.eq_zero_or_pos k with hz | hz
        · have HY := Lib.hid (show rdec false bs at_ = some (0, false, r) from by
            rw [HDEC.out]
            have := dec_some (b := b) (r := r) (by rw [HOK.out]; simp; omega) (by rw [HW.out]; omega) (by rw [HW.out, hz]; rfl)
            rw [HW.out, hz, HNG.out] at this
            exact this)
          have e5 : decide (0 < (k : Int)) = false := by simp; omega
          have HZ := Lib.hid hz
          have e6 : decide (0 < k) = false := by simp; omega
          clear hz
          go_quiet (fail)
          have hz := HZ.out
          subst hz
          go_wp2_with fail
          refine wp_loop_rounds 1 ?_
          rw [rounds_succ]
          go_wp2_with fail
          go_ret3
          exact ⟨0, false, 1, _, rfl, rfl, .inr ⟨r, HY.out, by omega, by omega, by rw [HRR.out]⟩⟩
        · have e5 : decide (0 < (k : Int)) = true := by simp; omega
          have e5' : ((k : Int) == 0) = false := by simp; omega
          have hj : at_ + 1 < bs.length := by omega
          have hrne : 0 < r.length := by omega
          have HC1 : Hid (bs[at_ + 1] = r[0]) := Lib.hid (by simp [HRR.out])
          have cc : ∀ n, (w.drewN n).cell? ⟨bb, oo + (at_ + 1), none⟩ = some (.int .u8 (r[0].toNat : Int)) := by rw [← HC1.out]; exact CELL.out (at_ + 1) hj
          have hlti2 : (at_ : Int) + 1 < (bs.length : Int) := by omega
          have htk0 : ∃ t, r.take k = r[0] :: t := ⟨(r.take k).drop 1, by
            have := List.drop_eq_getElem_cons (l := r.take k) (i := 0) (by rw [List.length_take]; omega)
            simpa using this⟩
          have HTK0 := Lib.hid htk0
          have hc0b := r[0].toNat_lt
          generalize r[0] = c at cc HTK0 hc0b
          clear htk0
          rcases Nat.eq_zero_or_pos c.toNat with hcz | hcz
          · have HN := Lib.hid (show rdec false bs at_ = none from by
              rw [HDEC.out]
              refine dec_none (.inr (.inr ?_))
              rw [HW.out]
              obtain ⟨t, ht⟩ := HTK0.out
              rw [ht, lean, hcz]
              rfl)
            rw [hcz] at cc
            clear hcz hc0b
            go_quiet (fail)
            go_wp2_with fail
            go_ret3
            exact ⟨0, false, 0, _, rfl, drewN_add _ _ _, .inl ⟨HN.out, rfl, rfl, rfl⟩⟩
          · have HLN := Lib.hid (show lean (r.take k) = true from by
              obtain ⟨t, ht⟩ := HTK0.out
              rw [ht, lean]
              simpa using hcz)
            have HY := Lib.hid (show rdec false bs at_ = some (val (r.take k), neg b, r.drop k) from by
              rw [HDEC.out]
              have := dec_some (b := b) (r := r) (by rw [HOK.out]; simp; omega) (by rw [HW.out]; omega) (by rw [HW.out]; exact HLN.out)
              rwa [HW.out] at this)
            have hcz2 : ((c.toNat : Int) == 0) = false := by simp; omega
            have hk8 : k ≤ 8 := by omega
            have hkr : k ≤ r.length := by omega
            clear k8 hlen hcz
            go_quiet (fail)
            clear e1 e2 e5 e5' cc hcz2
            go_wp2_with fail
            go_loopw [7, 8] (fun v7 v8 wr => ∃ i q : Nat, i ≤ k ∧ v7 = .int .u64 (val (r.take i) : Int) ∧ v8 = .int .i64 (i : Int) ∧ w.drewN q = wr) (fun _ v8 _ => k - (intOf v8).toNat)
            case atStart => exact ⟨0, _, by omega, rfl, rfl, (drewN_add _ _ _).symm⟩
            case round =>
              obtain ⟨i, q, hik, rfl, rfl, rfl⟩ := hrel
              by_cases hi : i < k
              · have hir : i < r.length := by omega
                have hji : at_ + 1 + i < bs.length := by omega
                have HCI : Hid (bs[at_ + 1 + i] = r[i]) := Lib.hid (by simp [HRR.out])
                have cc : ∀ n, (w.drewN n).cell? ⟨bb, oo + (at_ + 1 + i), none⟩ = some (.int .u8 (r[i].toNat : Int)) := by rw [← HCI.out]; exact CELL.out (at_ + 1 + i) hji
                have HVS := Lib.hid (show val (r.take (i + 1)) = val (r.take i) * 256 + r[i].toNat from by rw [take_snoc hir, val_snoc])
                have hvl : val (r.take i) < 72057594037927936 := by
                  have h1 := val_lt (r.take i)
                  have h2 : 256 ^ (r.take i).length ≤ 256 ^ 7 := Nat.pow_le_pow_right (by omega) (by rw [List.length_take]; omega)
                  omega
                have hci := r[i].toNat_lt
                generalize r[i] = c at cc HVS hci
                have HMA := Lib.hid (mul_add (val (r.take i)) c.toNat hvl (by omega))
                have hi0 : (0 : Int) ≤ (i : Int) := by omega
                have hik2 : (i : Int) < (k : Int) := by omega
                have hsi : IntKind.i64.wrap ((at_ : Int) + 1 + (i : Int)) = (at_ : Int) + 1 + (i : Int) := IntWalk.i64_in _ (by omega)
                have hsj : (0 : Int) ≤ (at_ : Int) + 1 + (i : Int) := by omega
                have hsk : ((at_ : Int) + 1 + (i : Int)).toNat = at_ + 1 + i := by omega
                have hsl : (at_ : Int) + 1 + (i : Int) < (bs.length : Int) := by omega
                clear hvl hci
                go_wp2_with fail
                go_quiet (fail)
                go_wp2_with fail
                go_roundw
                case rel => exact ⟨i + 1, _, by omega, by rw [HVS.out, ← HMA.out], by go_num, rfl⟩
                case measure => simp [intOf]; omega
              · obtain rfl : i = k := by omega
                go_wp2_with fail
                go_ret3
                refine ⟨val (r.take i), false, i + 1, q, rfl, rfl, .inr ⟨r.drop i, by rw [HY.out, HNG.out], by omega, by omega, ?_⟩⟩
                rw [HRR.out, List.drop_drop]
                congr 1
                omega
end Go.Proofs.Ythofodjklogfgaa

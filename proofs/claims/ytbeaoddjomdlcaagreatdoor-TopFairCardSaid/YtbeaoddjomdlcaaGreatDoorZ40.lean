/- Proved here, for the statement TopFairCardSaid: laws that its walk leans on. It holds with no condition. (Put together and shortened by a program out of many texts: Read2, RefRead, Read3, Read4, Read5, Read6, Read7, RefRead2, RefRead4.) -/
import Derived.Test.YtbeaoddjomdlcaaGreatDoorZ37
import Derived.Test.YtbeaoddjomdlcaaGreatDoorZ39
set_option linter.unusedVariables false
set_option linter.unusedSimpArgs false
set_option maxRecDepth 100000
set_option maxHeartbeats 64000000
namespace Go.Proofs.YtbeaoddjomdlcaaGreatDoor
section
open Go.RowKit ReadM
def RefAt (w : World) (B g : Nat) (bs : List UInt8) (at_ : Nat) (amis : Bool) : Prop :=
  ∃ A cap, Blk w g 104 #[.slice A bs.length cap, .int .i64 (at_ : Int), .bool amis] ∧ Rd w B A (bs.map bv) ∧ bs.length ≤ cap ∧ cap ≤ maxLen ∧ B ≤ g
theorem RefAt.frm {w w' : World} {B g : Nat} {bs : List UInt8} {at_ : Nat} {amis : Bool} {S : Nat → Prop} (h : RefAt w B g bs at_ amis) (hf : Frm S w w') (hg : ¬ S g) (hS : ∀ k, k < B → ¬ S k) : RefAt w' B g bs at_ amis := by
  obtain ⟨A, cap, h1, h2, h3, h4, h5⟩ := h
  exact ⟨A, cap, h1.frm hf hg, h2.frm (by have := h1.lt; omega) hf (fun p _ hp => hS _ hp), h3, h4, h5⟩
def rdec (amis : Bool) (bs : List UInt8) (at_ : Nat) : Option (Nat × Bool × List UInt8) := if amis then none else dec (bs.drop at_)
def NextPost (w : World) (bs : List UInt8) (at_ : Nat) (r : Option (Nat × Bool × List UInt8)) (e : Ending) (w' : World) : Prop :=
  ∃ (n : Nat) (m : Bool) (k q : Nat), e = .returned (.tuple #[.int .u64 (n : Int), .bool m, .int .i64 (k : Int)]) ∧ w' = w.drewN q ∧
    ((r = none ∧ n = 0 ∧ m = false ∧ k = 0) ∨ (∃ rest, r = some (n, m, rest) ∧ 0 < k ∧ at_ + k ≤ bs.length ∧ rest = bs.drop (at_ + k)))
theorem rd_drewN_add (w : World) (k n : Nat) : (w.drewN k).drewN n = w.drewN (k + n) := by simp [World.drewN, Nat.add_assoc]
theorem mul_add (v c : Nat) (hv : v < 72057594037927936) (hc : c < 256) : IntKind.u64.wrap (IntKind.u64.wrap ((v : Int) * 256) + IntKind.u64.wrap (c : Int)) = ((v * 256 + c : Nat) : Int) := by
  rw [IntKind.wrap_u64, IntKind.wrap_u64, IntKind.wrap_u64]; omega
set_option maxRecDepth 100000 in
theorem next_any (w : World) (B g : Nat) (bs : List UInt8) (at_ : Nat) (amis : Bool) (hat : at_ ≤ bs.length) (hbl : bs.length ≤ 140737488355328) (h : RefAt w B g bs at_ amis) :
    Calls Tryz.prog 78 #[.pointer (some ⟨g, 0, none⟩)] w fun e w' => NextPost w bs at_ (rdec amis bs at_) e w' := by
  obtain ⟨A, cap, hb, hrd, hle, hmost, _⟩ := h
  have hc2 : w.cell? ⟨g, 2, none⟩ = some (.bool amis) := hb.cell 2
  have hd1 : ∀ n, (w.drewN n).cell? ⟨g, 1, none⟩ = some (.int .i64 (at_ : Int)) := fun _ => hb.cell 1
  have hd0 : ∀ n, (w.drewN n).cell? ⟨g, 0, none⟩ = some (.slice A bs.length cap) := fun _ => hb.cell 0
  have hd2 : ∀ n, (w.drewN n).cell? ⟨g, 2, none⟩ = some (.bool amis) := fun _ => hb.cell 2
  have hc0 : w.cell? ⟨g, 0, none⟩ = some (.slice A bs.length cap) := hb.cell 0
  have hc1 : w.cell? ⟨g, 1, none⟩ = some (.int .i64 (at_ : Int)) := hb.cell 1
  have HR := zh hrd
  unfold maxLen at hmost
  clear hb hrd
  cases amis with
  | true =>
    go_in
    go_wp2_with fail
    go_quiet (fail)
    go_wp2_with fail
    go_ret3
    exact ⟨0, false, 0, _, rfl, rfl, .inl ⟨rfl, rfl, rfl, rfl⟩⟩
  | false =>
    by_cases hat2 : at_ = bs.length
    · have HD := zh (show rdec false bs at_ = none from by rw [rdec, if_neg (by simp), hat2, List.drop_length]; rfl)
      have d1 : decide (bs.length ≤ at_) = true := by simp; omega
      clear hat2
      go_in
      go_wp2_with fail
      go_quiet (fail)
      go_wp2_with fail
      go_ret3
      exact ⟨0, false, 0, _, rfl, rfl, .inl ⟨HD.out, rfl, rfl, rfl⟩⟩
    · have hlt : at_ < bs.length := by omega
      have hlti : (at_ : Int) < (bs.length : Int) := by omega
      have hat0 : (0 : Int) ≤ at_ := by omega
      have d1 : decide (bs.length ≤ at_) = false := by simp; omega
      obtain ⟨bb, oo, hA, _, hcA⟩ := HR.out.at_ (k := at_) (by simpa using hlt)
      subst hA
      have CELL : Hid (∀ j (hj : j < bs.length) n, (w.drewN n).cell? ⟨bb, oo + j, none⟩ = some (.int .u8 (bs[j].toNat : Int))) := zh (by
        intro j hj n
        obtain ⟨b2, o2, hA2, _, hc⟩ := HR.out.at_ (k := j) (by simpa using hj)
        injection hA2 with hA2
        injection hA2 with e1 e2
        subst e1 e2
        rw [List.getElem_map] at hc
        exact hc)
      clear hcA
      have hbd : bs[at_].toNat < 256 := bs[at_].toNat_lt
      have HDR := zh (List.drop_eq_getElem_cons hlt)
      obtain ⟨b, hbe⟩ : ∃ b, b = bs[at_] := ⟨_, rfl⟩
      have cb : ∀ n, (w.drewN n).cell? ⟨bb, oo + at_, none⟩ = some (.int .u8 (b.toNat : Int)) := by rw [hbe]; exact CELL.out at_ hlt
      rw [← hbe] at hbd HDR
      have HBE := zh hbe
      clear hbe
      obtain ⟨r, hr⟩ : ∃ r, r = bs.drop (at_ + 1) := ⟨_, rfl⟩
      rw [← hr] at HDR
      have hrl : r.length = bs.length - (at_ + 1) := by rw [hr, List.length_drop]
      have HRR := zh hr
      have HRL := zh hrl
      clear hr hrl
      have HDEC := zh (show rdec false bs at_ = dec (b :: r) from by rw [rdec, if_neg (by simp), HDR.out])
      have hw1 : IntKind.i64.wrap ((at_ : Int) + 1) = (at_ : Int) + 1 := IntWalk.i64_in _ (by omega)
      by_cases hn : 16 ≤ b.toNat
      · obtain ⟨k, hk⟩ : ∃ k, b.toNat = k + 16 := ⟨b.toNat - 16, by omega⟩
        have hwid : wid b = k := by unfold wid; rw [if_pos hn]; omega
        have hneg : neg b = true := by unfold neg; simpa using hn
        have hkb : k ≤ 239 := by omega
        have hkk : (b.toNat : Int) = (k : Int) + 16 := by omega
        have hok : okHead b = (decide (k ≤ 8) && decide (0 < k)) := by
          unfold okHead
          rw [hwid, hneg, hk]
          by_cases q1 : k ≤ 8 <;> by_cases q2 : 0 < k <;> simp [q1, q2] <;> omega
        rw [hkk] at cb
        have hg16 : (16 : Int) ≤ (k : Int) + 16 := by omega
        have HW := zh hwid
        have HNG := zh hneg
        have HOK := zh hok
        clear hwid hneg hok hk hkk hn hbd
        go_in
        go_wp2_with fail
        go_quiet (fail)
        go_wp2_with fail
        go_quiet (fail)
        go_wp2_with fail
        have hs1 : IntKind.i64.wrap ((at_ : Int) + 1 + (k : Int)) = (at_ : Int) + 1 + (k : Int) := IntWalk.i64_in _ (by omega)
        have hs0 : (0 : Int) ≤ (at_ : Int) + 1 := by omega
        have hs2 : ((at_ : Int) + 1).toNat = at_ + 1 := by omega
        have hk00 : (0 : Int) ≤ (k : Int) := by omega
        by_cases k8 : 8 < k
        · have HN := zh (show rdec false bs at_ = none from by rw [HDEC.out]; exact dec_none (.inl (by rw [HOK.out]; simp; omega)))
          have e1 : decide (8 < (k : Int)) = true := by simp; omega
          have e2 : (8 : Int) < (k : Int) := by omega
          go_quiet (fail)
          go_wp2_with fail
          go_ret3
          exact ⟨0, false, 0, _, rfl, rd_drewN_add _ _ _, .inl ⟨HN.out, rfl, rfl, rfl⟩⟩
        have e1 : decide (8 < (k : Int)) = false := by simp; omega
        by_cases hlen : r.length < k
        · have HN := zh (show rdec false bs at_ = none from by rw [HDEC.out]; exact dec_none (.inr (.inl (by rw [HW.out]; exact hlen))))
          have hrl2 := HRL.out
          have e2 : decide ((bs.length : Int) < (at_ : Int) + 1 + (k : Int)) = true := by simp; omega
          have e3 : (bs.length : Int) < (at_ : Int) + 1 + (k : Int) := by omega
          go_quiet (fail)
          go_wp2_with fail
          go_ret3
          exact ⟨0, false, 0, _, rfl, rd_drewN_add _ _ _, .inl ⟨HN.out, rfl, rfl, rfl⟩⟩
        have hrl2 := HRL.out
        have e2 : decide ((bs.length : Int) < (at_ : Int) + 1 + (k : Int)) = false := by simp; omega
        rcases Nat.eq_zero_or_pos k with hz | hz
        · have HN := zh (show rdec false bs at_ = none from by rw [HDEC.out]; exact dec_none (.inl (by rw [HOK.out, hz]; rfl)))
          have e5 : decide (0 < (k : Int)) = false := by simp; omega
          have e5' : ((k : Int) == 0) = true := by simp; omega
          clear hz
          go_quiet (fail)
          go_wp2_with fail
          go_ret3
          exact ⟨0, false, 0, _, rfl, rd_drewN_add _ _ _, .inl ⟨HN.out, rfl, rfl, rfl⟩⟩
        · have e5 : decide (0 < (k : Int)) = true := by simp; omega
          have e5' : ((k : Int) == 0) = false := by simp; omega
          have hj : at_ + 1 < bs.length := by omega
          have hrne : 0 < r.length := by omega
          have HC1 : Hid (bs[at_ + 1] = r[0]) := zh (by simp [HRR.out])
          have cc : ∀ n, (w.drewN n).cell? ⟨bb, oo + (at_ + 1), none⟩ = some (.int .u8 (r[0].toNat : Int)) := by rw [← HC1.out]; exact CELL.out (at_ + 1) hj
          have hlti2 : (at_ : Int) + 1 < (bs.length : Int) := by omega
          have htk0 : ∃ t, r.take k = r[0] :: t := ⟨(r.take k).drop 1, by
            have := List.drop_eq_getElem_cons (l := r.take k) (i := 0) (by rw [List.length_take]; omega)
            simpa using this⟩
          have HTK0 := zh htk0
          have hc0b := r[0].toNat_lt
          generalize r[0] = c at cc HTK0 hc0b
          clear htk0
          rcases Nat.eq_zero_or_pos c.toNat with hcz | hcz
          · have HN := zh (show rdec false bs at_ = none from by
              rw [HDEC.out]
              refine dec_none (.inr (.inr ?_))
              rw [HW.out]
              obtain ⟨t, ht⟩ := HTK0.out
              rw [ht, lean, hcz]
              rfl)
            rw [hcz] at cc
            clear hcz hc0b
            go_quiet (fail)
            go_wp2_with fail
            go_ret3
            exact ⟨0, false, 0, _, rfl, rd_drewN_add _ _ _, .inl ⟨HN.out, rfl, rfl, rfl⟩⟩
          · have HLN := zh (show lean (r.take k) = true from by
              obtain ⟨t, ht⟩ := HTK0.out
              rw [ht, lean]
              simpa using hcz)
            have HY := zh (show rdec false bs at_ = some (val (r.take k), neg b, r.drop k) from by
              rw [HDEC.out]
              have := dec_some (b := b) (r := r) (by rw [HOK.out]; simp; omega) (by rw [HW.out]; omega) (by rw [HW.out]; exact HLN.out)
              rwa [HW.out] at this)
            have hcz2 : ((c.toNat : Int) == 0) = false := by simp; omega
            have hk8 : k ≤ 8 := by omega
            have hkr : k ≤ r.length := by omega
            clear k8 hlen hcz
            go_quiet (fail)
            clear e1 e2 e5 e5' cc hcz2
            go_wp2_with fail
            go_loopw [7, 8] (fun v7 v8 wr => ∃ i q : Nat, i ≤ k ∧ v7 = .int .u64 (val (r.take i) : Int) ∧ v8 = .int .i64 (i : Int) ∧ w.drewN q = wr) (fun _ v8 _ => k - (RowKit.intOf v8).toNat)
            case atStart => exact ⟨0, _, by omega, rfl, rfl, (rd_drewN_add _ _ _).symm⟩
            case round =>
              obtain ⟨i, q, hik, rfl, rfl, rfl⟩ := hrel
              by_cases hi : i < k
              · have hir : i < r.length := by omega
                have hji : at_ + 1 + i < bs.length := by omega
                have HCI : Hid (bs[at_ + 1 + i] = r[i]) := zh (by simp [HRR.out])
                have cc : ∀ n, (w.drewN n).cell? ⟨bb, oo + (at_ + 1 + i), none⟩ = some (.int .u8 (r[i].toNat : Int)) := by rw [← HCI.out]; exact CELL.out (at_ + 1 + i) hji
                have HVS := zh (show val (r.take (i + 1)) = val (r.take i) * 256 + r[i].toNat from by rw [take_snoc hir, val_snoc])
                have hvl : val (r.take i) < 72057594037927936 := by
                  have h1 := val_lt (r.take i)
                  have h2 : 256 ^ (r.take i).length ≤ 256 ^ 7 := Nat.pow_le_pow_right (by omega) (by rw [List.length_take]; omega)
                  omega
                have hci := r[i].toNat_lt
                generalize r[i] = c at cc HVS hci
                have HMA := zh (mul_add (val (r.take i)) c.toNat hvl (by omega))
                have hi0 : (0 : Int) ≤ (i : Int) := by omega
                have hik2 : (i : Int) < (k : Int) := by omega
                have hsi : IntKind.i64.wrap ((at_ : Int) + 1 + (i : Int)) = (at_ : Int) + 1 + (i : Int) := IntWalk.i64_in _ (by omega)
                have hsj : (0 : Int) ≤ (at_ : Int) + 1 + (i : Int) := by omega
                have hsk : ((at_ : Int) + 1 + (i : Int)).toNat = at_ + 1 + i := by omega
                have hsl : (at_ : Int) + 1 + (i : Int) < (bs.length : Int) := by omega
                clear hvl hci
                go_wp2_with fail
                go_quiet (fail)
                go_wp2_with fail
                go_roundw
                case rel => exact ⟨i + 1, _, by omega, by rw [HVS.out, ← HMA.out], by go_num, rfl⟩
                case measure => simp [RowKit.intOf]; omega
              · obtain rfl : i = k := by omega
                go_wp2_with fail
                go_ret3
                refine ⟨val (r.take i), true, i + 1, q, rfl, rfl, .inr ⟨r.drop i, by rw [HY.out, HNG.out], by omega, by omega, ?_⟩⟩
                rw [HRR.out, List.drop_drop]
                congr 1
                omega
      · have hwid : wid b = b.toNat := by unfold wid; rw [if_neg hn]
        have hneg : neg b = false := by unfold neg; simpa using hn
        obtain ⟨k, hk⟩ : ∃ k, k = b.toNat := ⟨_, rfl⟩
        rw [← hk] at hwid
        have hok : okHead b = decide (k ≤ 8) := by
          unfold okHead
          rw [hwid, hneg, ← hk]
          by_cases q1 : k ≤ 8 <;> simp [q1] <;> omega
        have hkb : k ≤ 15 := by omega
        have hn' : (k : Int) < 16 := by omega
        have hng : decide ((16 : Int) ≤ (k : Int)) = false := by simp; omega
        rw [← hk] at cb
        have HW := zh hwid
        have HNG := zh hneg
        have HOK := zh hok
        clear hwid hneg hok hk hn hbd
        go_in
        go_wp2_with fail
        go_quiet (fail)
        go_wp2_with fail
        go_quiet (fail)
        go_wp2_with fail
        have hs1 : IntKind.i64.wrap ((at_ : Int) + 1 + (k : Int)) = (at_ : Int) + 1 + (k : Int) := IntWalk.i64_in _ (by omega)
        have hs0 : (0 : Int) ≤ (at_ : Int) + 1 := by omega
        have hs2 : ((at_ : Int) + 1).toNat = at_ + 1 := by omega
        have hk00 : (0 : Int) ≤ (k : Int) := by omega
        by_cases k8 : 8 < k
        · have HN := zh (show rdec false bs at_ = none from by rw [HDEC.out]; exact dec_none (.inl (by rw [HOK.out]; simp; omega)))
          have e1 : decide (8 < (k : Int)) = true := by simp; omega
          have e2 : (8 : Int) < (k : Int) := by omega
          go_quiet (fail)
          go_wp2_with fail
          go_ret3
          exact ⟨0, false, 0, _, rfl, rd_drewN_add _ _ _, .inl ⟨HN.out, rfl, rfl, rfl⟩⟩
        have e1 : decide (8 < (k : Int)) = false := by simp; omega
        by_cases hlen : r.length < k
        · have HN := zh (show rdec false bs at_ = none from by rw [HDEC.out]; exact dec_none (.inr (.inl (by rw [HW.out]; exact hlen))))
          have hrl2 := HRL.out
          have e2 : decide ((bs.length : Int) < (at_ : Int) + 1 + (k : Int)) = true := by simp; omega
          have e3 : (bs.length : Int) < (at_ : Int) + 1 + (k : Int) := by omega
          go_quiet (fail)
          go_wp2_with fail
          go_ret3
          exact ⟨0, false, 0, _, rfl, rd_drewN_add _ _ _, .inl ⟨HN.out, rfl, rfl, rfl⟩⟩
        have hrl2 := HRL.out
        have e2 : decide ((bs.length : Int) < (at_ : Int) + 1 + (k : Int)) = false := by simp; omega
        rcases Nat.eq_zero_or_pos k with hz | hz
        · have HY := zh (show rdec false bs at_ = some (0, false, r) from by
            rw [HDEC.out]
            have := dec_some (b := b) (r := r) (by rw [HOK.out]; simp; omega) (by rw [HW.out]; omega) (by rw [HW.out, hz]; rfl)
            rw [HW.out, hz, HNG.out] at this
            exact this)
          have e5 : decide (0 < (k : Int)) = false := by simp; omega
          have HZ := zh hz
          have e6 : decide (0 < k) = false := by simp; omega
          clear hz
          go_quiet (fail)
          have hz := HZ.out
          subst hz
          go_wp2_with fail
          refine wp_loop_rounds 1 ?_
          rw [rounds_succ]
          go_wp2_with fail
          go_ret3
          exact ⟨0, false, 1, _, rfl, rfl, .inr ⟨r, HY.out, by omega, by omega, by rw [HRR.out]⟩⟩
        · have e5 : decide (0 < (k : Int)) = true := by simp; omega
          have e5' : ((k : Int) == 0) = false := by simp; omega
          have hj : at_ + 1 < bs.length := by omega
          have hrne : 0 < r.length := by omega
          have HC1 : Hid (bs[at_ + 1] = r[0]) := zh (by simp [HRR.out])
          have cc : ∀ n, (w.drewN n).cell? ⟨bb, oo + (at_ + 1), none⟩ = some (.int .u8 (r[0].toNat : Int)) := by rw [← HC1.out]; exact CELL.out (at_ + 1) hj
          have hlti2 : (at_ : Int) + 1 < (bs.length : Int) := by omega
          have htk0 : ∃ t, r.take k = r[0] :: t := ⟨(r.take k).drop 1, by
            have := List.drop_eq_getElem_cons (l := r.take k) (i := 0) (by rw [List.length_take]; omega)
            simpa using this⟩
          have HTK0 := zh htk0
          have hc0b := r[0].toNat_lt
          generalize r[0] = c at cc HTK0 hc0b
          clear htk0
          rcases Nat.eq_zero_or_pos c.toNat with hcz | hcz
          · have HN := zh (show rdec false bs at_ = none from by
              rw [HDEC.out]
              refine dec_none (.inr (.inr ?_))
              rw [HW.out]
              obtain ⟨t, ht⟩ := HTK0.out
              rw [ht, lean, hcz]
              rfl)
            rw [hcz] at cc
            clear hcz hc0b
            go_quiet (fail)
            go_wp2_with fail
            go_ret3
            exact ⟨0, false, 0, _, rfl, rd_drewN_add _ _ _, .inl ⟨HN.out, rfl, rfl, rfl⟩⟩
          · have HLN := zh (show lean (r.take k) = true from by
              obtain ⟨t, ht⟩ := HTK0.out
              rw [ht, lean]
              simpa using hcz)
            have HY := zh (show rdec false bs at_ = some (val (r.take k), neg b, r.drop k) from by
              rw [HDEC.out]
              have := dec_some (b := b) (r := r) (by rw [HOK.out]; simp; omega) (by rw [HW.out]; omega) (by rw [HW.out]; exact HLN.out)
              rwa [HW.out] at this)
            have hcz2 : ((c.toNat : Int) == 0) = false := by simp; omega
            have hk8 : k ≤ 8 := by omega
            have hkr : k ≤ r.length := by omega
            clear k8 hlen hcz
            go_quiet (fail)
            clear e1 e2 e5 e5' cc hcz2
            go_wp2_with fail
            go_loopw [7, 8] (fun v7 v8 wr => ∃ i q : Nat, i ≤ k ∧ v7 = .int .u64 (val (r.take i) : Int) ∧ v8 = .int .i64 (i : Int) ∧ w.drewN q = wr) (fun _ v8 _ => k - (RowKit.intOf v8).toNat)
            case atStart => exact ⟨0, _, by omega, rfl, rfl, (rd_drewN_add _ _ _).symm⟩
            case round =>
              obtain ⟨i, q, hik, rfl, rfl, rfl⟩ := hrel
              by_cases hi : i < k
              · have hir : i < r.length := by omega
                have hji : at_ + 1 + i < bs.length := by omega
                have HCI : Hid (bs[at_ + 1 + i] = r[i]) := zh (by simp [HRR.out])
                have cc : ∀ n, (w.drewN n).cell? ⟨bb, oo + (at_ + 1 + i), none⟩ = some (.int .u8 (r[i].toNat : Int)) := by rw [← HCI.out]; exact CELL.out (at_ + 1 + i) hji
                have HVS := zh (show val (r.take (i + 1)) = val (r.take i) * 256 + r[i].toNat from by rw [take_snoc hir, val_snoc])
                have hvl : val (r.take i) < 72057594037927936 := by
                  have h1 := val_lt (r.take i)
                  have h2 : 256 ^ (r.take i).length ≤ 256 ^ 7 := Nat.pow_le_pow_right (by omega) (by rw [List.length_take]; omega)
                  omega
                have hci := r[i].toNat_lt
                generalize r[i] = c at cc HVS hci
                have HMA := zh (mul_add (val (r.take i)) c.toNat hvl (by omega))
                have hi0 : (0 : Int) ≤ (i : Int) := by omega
                have hik2 : (i : Int) < (k : Int) := by omega
                have hsi : IntKind.i64.wrap ((at_ : Int) + 1 + (i : Int)) = (at_ : Int) + 1 + (i : Int) := IntWalk.i64_in _ (by omega)
                have hsj : (0 : Int) ≤ (at_ : Int) + 1 + (i : Int) := by omega
                have hsk : ((at_ : Int) + 1 + (i : Int)).toNat = at_ + 1 + i := by omega
                have hsl : (at_ : Int) + 1 + (i : Int) < (bs.length : Int) := by omega
                clear hvl hci
                go_wp2_with fail
                go_quiet (fail)
                go_wp2_with fail
                go_roundw
                case rel => exact ⟨i + 1, _, by omega, by rw [HVS.out, ← HMA.out], by go_num, rfl⟩
                case measure => simp [RowKit.intOf]; omega
              · obtain rfl : i = k := by omega
                go_wp2_with fail
                go_ret3
                refine ⟨val (r.take i), false, i + 1, q, rfl, rfl, .inr ⟨r.drop i, by rw [HY.out, HNG.out], by omega, by omega, ?_⟩⟩
                rw [HRR.out, List.drop_drop]
                congr 1
                omega
def uv (n : Nat) : Value := .int .u64 (n : Int)
def ifGood {α : Type} (bad : Bool) (r : Option α) : Option α := if bad then none else r
def lv (n : Int) : Value := .int .i64 n
theorem u64_small {n : Nat} (h : (n : Int) ≤ 9223372036854775807) : IntKind.u64.wrap (n : Int) = (n : Int) := by rw [IntKind.wrap_u64]; omega
def StepTo (w : World) (B g : Nat) (bs : List UInt8) (rest : Option (List UInt8)) (w' : World) : Prop :=
  ∃ at', at' ≤ bs.length ∧ RefAt w' B g bs at' rest.isNone ∧ (∀ x, rest = some x → x = bs.drop at') ∧ Frm (fun k => k = g) w w'
theorem RefAt.lt {w : World} {B g : Nat} {bs : List UInt8} {at_ : Nat} {amis : Bool} (h : RefAt w B g bs at_ amis) : g < w.heap.size := by
  obtain ⟨_, _, h, _⟩ := h; exact h.lt
theorem step_amis {w w1 : World} {B g : Nat} {bs : List UInt8} {at_ : Nat} {amis : Bool} (hat : at_ ≤ bs.length) (h : RefAt w1 B g bs at_ amis) (F : Frm (fun k => k = g) w w1) : StepTo w B g bs none (w1.setCell ⟨g, 2, none⟩ (.bool true)) := by
  have hlt := h.lt
  obtain ⟨A, cap, h1, h2, h3, h4, h5⟩ := h
  have FS : Frm (fun k => k = g) w1 (w1.setCell ⟨g, 2, none⟩ (.bool true)) := (Frm.refl (fun k => k = g) w1).setCell (p := ⟨g, 2, none⟩) (fun _ => rfl) _
  exact ⟨at_, hat, ⟨A, cap, h1.set 2 (.bool true), h2.frm (by omega) FS (fun p _ hp e => by omega), h3, h4, h5⟩, fun x h => by simp at h, F.trans FS⟩
theorem step_on {w w1 : World} {B g : Nat} {bs : List UInt8} {at_ k : Nat} {rest : List UInt8} (hk : at_ + k ≤ bs.length) (hr : rest = bs.drop (at_ + k)) (h : RefAt w1 B g bs at_ false) (F : Frm (fun k => k = g) w w1) :
    StepTo w B g bs (some rest) (w1.setCell ⟨g, 1, none⟩ (.int .i64 ((at_ : Int) + (k : Int)))) := by
  have hlt := h.lt
  obtain ⟨A, cap, h1, h2, h3, h4, h5⟩ := h
  have FS : Frm (fun k => k = g) w1 (w1.setCell ⟨g, 1, none⟩ (.int .i64 ((at_ : Int) + (k : Int)))) := (Frm.refl (fun k => k = g) w1).setCell (p := ⟨g, 1, none⟩) (fun _ => rfl) _
  refine ⟨at_ + k, hk, ⟨A, cap, ?_, h2.frm (by omega) FS (fun p _ hp e => by omega), h3, h4, h5⟩, fun x h => by injection h with h; rw [← h, hr], F.trans FS⟩
  have := h1.set 1 (.int .i64 ((at_ : Int) + (k : Int)))
  simpa using this
def RefNum (w : World) (B g : Nat) (bs : List UInt8) (res : Option (Nat × List UInt8)) (e : Ending) (w' : World) : Prop :=
  e = .returned (uv (match res with | some x => x.1 | none => 0)) ∧ StepTo w B g bs (res.map (·.2)) w'
theorem num_rdec (amis : Bool) (most : Nat) (bs : List UInt8) (at_ : Nat) : ifGood amis (numRes most (bs.drop at_)) = match rdec amis bs at_ with | some (n, false, rest) => if n ≤ most then some (n, rest) else none | _ => none := by cases amis <;> rfl
theorem rdec_good {amis : Bool} {bs : List UInt8} {at_ : Nat} {x : Nat × Bool × List UInt8} (h : rdec amis bs at_ = some x) : amis = false := by cases amis; rfl; cases h
theorem rNumber_any (w : World) (B g : Nat) (bs : List UInt8) (at_ : Nat) (amis : Bool) (most : Nat) (hat : at_ ≤ bs.length) (hbl : bs.length ≤ 140737488355328) (h : RefAt w B g bs at_ amis) :
    Calls Tryz.prog 39 #[.pointer (some ⟨g, 0, none⟩), .int .u64 (most : Int)] w fun e w' => RefNum w B g bs (ifGood amis (numRes most (bs.drop at_))) e w' := by
  have H := zh h
  clear h
  go_in
  go_wp2_with fail
  refine (next_any w B g bs at_ amis hat hbl H.out).mono ?_
  intro e w1 hn
  obtain ⟨n, m, k, q, rfl, rfl, hr⟩ := hn
  have HF1 : Hid (Frm (fun k => k = g) w (w.drewN q)) := zh ((Frm.refl _ w).drewN q)
  have h1 : RefAt (w.drewN q) B g bs at_ amis := H.out.frm ((Frm.refl (fun _ => False) w).drewN q) (fun f => f) (fun _ _ f => f)
  generalize w.drewN q = w1 at HF1 h1
  have H1 := zh h1
  have hc1 : w1.cell? ⟨g, 1, none⟩ = some (.int .i64 (at_ : Int)) := by obtain ⟨_, _, hb, _⟩ := h1; exact hb.cell 1
  have hc2 : w1.cell? ⟨g, 2, none⟩ = some (.bool amis) := by obtain ⟨_, _, hb, _⟩ := h1; exact hb.cell 2
  have hz1 := (show ∃ A cap, Blk w1 g 104 #[.slice A bs.length cap, .int .i64 (at_ : Int), .bool amis] from by obtain ⟨A, cap, hb, _⟩ := h1; exact ⟨A, cap, hb⟩)
  obtain ⟨AA, cc, hzb⟩ := hz1
  have hf1 := hzb.frozen 1
  have hf2 := hzb.frozen 2
  clear h1 hzb
  rcases hr with ⟨hr, rfl, rfl, rfl⟩ | ⟨rest, hr, hk, hkl, hrest⟩
  · have HR := zh hr
    clear hr
    go_wp2_with fail
    go_ret
    rw [num_rdec, HR.out]
    exact ⟨rfl, step_amis hat H1.out HF1.out⟩
  · obtain rfl := rdec_good hr
    have e0 : ((k : Int) == 0) = false := by simp; omega
    have HR := zh hr
    have HRE := zh hrest
    clear hr hrest
    cases m with
    | true =>
      go_wp2_with fail
      go_ret
      rw [num_rdec, HR.out]
      exact ⟨rfl, step_amis hat H1.out HF1.out⟩
    | false =>
      by_cases q1 : n ≤ most
      · have e1 : decide (most < n) = false := by simp; omega
        have hw1 : IntKind.i64.wrap ((at_ : Int) + (k : Int)) = (at_ : Int) + (k : Int) := IntWalk.i64_in _ (by omega)
        go_wp2_with fail
        go_ret
        rw [num_rdec, HR.out]
        simp only [if_pos q1]
        exact ⟨rfl, step_on hkl HRE.out H1.out HF1.out⟩
      · have e1 : decide (most < n) = true := by simp; omega
        go_wp2_with fail
        go_ret
        rw [num_rdec, HR.out]
        simp only [if_neg q1]
        exact ⟨rfl, step_amis hat H1.out HF1.out⟩
def refWholeB (bs : List UInt8) (at_ : Nat) (amis : Bool) : Bool := !amis && decide (at_ = bs.length)
theorem rWhole_any (w : World) (B g : Nat) (bs : List UInt8) (at_ : Nat) (amis : Bool) (h : RefAt w B g bs at_ amis) :
    Calls Tryz.prog 43 #[.pointer (some ⟨g, 0, none⟩)] w fun e w' => e = .returned (.bool (refWholeB bs at_ amis)) ∧ ∃ n, w' = w.drewN n := by
  obtain ⟨A, cap, hb, _⟩ := h
  have hd0 : ∀ n, (w.drewN n).cell? ⟨g, 0, none⟩ = some (.slice A bs.length cap) := fun _ => hb.cell 0
  have hd1 : ∀ n, (w.drewN n).cell? ⟨g, 1, none⟩ = some (.int .i64 (at_ : Int)) := fun _ => hb.cell 1
  have hd2 : ∀ n, (w.drewN n).cell? ⟨g, 2, none⟩ = some (.bool amis) := fun _ => hb.cell 2
  clear hb
  cases amis with
  | true =>
    go_in
    go_wp2_with fail
    go_quiet (fail)
    go_wp2_with fail
    go_ret
    exact ⟨rfl, _, rfl⟩
  | false =>
    obtain ⟨b, hb⟩ : ∃ b, b = decide (at_ = bs.length) := ⟨_, rfl⟩
    have HB := zh hb
    have e1 : ((at_ : Int) == (bs.length : Int)) = b := by rw [hb]; cases h : decide (at_ = bs.length) <;> simp at h ⊢ <;> omega
    clear hb
    go_in
    go_wp2_with fail
    go_quiet (fail)
    go_wp2_with fail
    go_ret
    exact ⟨by rw [refWholeB, ← HB.out]; rfl, _, rfl⟩
theorem rd_step_append_sl {P : Program} {w : World} {ops : Array Oper} {o : Oper} {a : Act} {K : Act → World → Prop} {Q : Exit → Act → World → Prop} {E : Prop} (hgd : o.guard = none) (s x : Operand) (t : TypeId)
    (ho : o.op = .call { callee := .builtin .append, args := #[s, x], argTypes := #[t, t] })
    (B : Nat) (e : TypeId) (i : TypeInfo) (z : Value) (size bytes : Nat) (ht : P.underlying t = some (.slice e)) (hi : P.info? e = some i) (hz : i.zero = some z)
    (hsize : i.size = size) (hby : i.bytes = bytes) (hzs : z.cells.size = size) (hsz : 0 < size)
    (v : Value) (n : Nat) (xs : List Value) (hs : a.eval s = v) (hown : Sl w B e size v n xs)
    (B' : Nat) (A : Option Addr) (m c : Nat) (news : List Value) (hx : a.eval x = .slice A m c) (hl : news.length = m * size) (hr : Rd w B' A news) (h1 : ∀ u ∈ news, u.oneCell' = true)
    (h63 : n + m ≤ maxLen) (hbytes : (n + m) * bytes ≤ 140737488355328) (hB : B ≤ w.heap.size)
    (h : ∀ v' w', Sl w' B e size v' (n + m) (xs ++ news) → Frm (fun k => v.ownBlock = some k) w w' → (v'.ownBlock = v.ownBlock ∨ v'.ownBlock = some w.heap.size) → K (a.put o.dst v') w') :
    if Region.wanted o (yielded ops a.tmps) = true then Oper.wp P o a w K Q else E := by
  have hw : Region.wanted o (yielded ops a.tmps) = true := by simp [Region.wanted, hgd]
  rw [if_pos hw]
  obtain ⟨v', w', hrun, h2, h3, h4⟩ := run_append_sl (P := P) w B t o.type e i z size bytes ht hi hz hsize hby hzs hsz v n xs hown B' A m c news hl hr h1 h63 hbytes hB
  unfold Oper.wp execOp
  simp only [ho, resolve, invoke, builtin, Sem.run_bind, Sem.run_pure, Result.andThen_ok, List.map_toArray, List.map_cons, List.map_nil, hs, hx, hrun]
  exact h v' w' h2 h3 h4
def RefText (w : World) (B g : Nat) (bs : List UInt8) (res : Option (List UInt8 × List UInt8)) (e : Ending) (w' : World) : Prop :=
  ∃ v t, e = .returned v ∧ t = (match res with | some x => x.1 | none => []) ∧ Sl w' w.heap.size 5 1 v t.length (t.map bv) ∧ StepTo w B g bs (res.map (·.2)) w'
theorem text_rdec (amis : Bool) (most : Int) (bs : List UInt8) (at_ : Nat) : ifGood amis (textRes most (bs.drop at_)) = match rdec amis bs at_ with | some (n, false, rest) => if 0 ≤ most ∧ (n : Int) ≤ most ∧ n ≤ rest.length then some (rest.take n, rest.drop n) else none | _ => none := by cases amis <;> rfl
theorem text_no {w w1 : World} {B g : Nat} {bs : List UInt8} {at_ : Nat} {amis : Bool} (hat : at_ ≤ bs.length) (h : RefAt w1 B g bs at_ amis) (F : Frm (fun k => k = g) w w1) (n : Nat) : RefText w B g bs none (.returned (.slice none 0 0)) ((w1.drewN n).setCell ⟨g, 2, none⟩ (.bool true)) :=
  ⟨_, [], rfl, rfl, Sl.nil _ _ _ _, step_amis hat (show RefAt (w1.drewN n) B g bs at_ amis from h.frm ((Frm.refl (fun _ => False) w1).drewN n) (fun f => f) (fun _ _ f => f)) (F.drewN n)⟩
theorem step_fresh {w w1 w2 : World} {B g : Nat} {bs : List UInt8} {rest : Option (List UInt8)} (h : StepTo w B g bs rest w1) (F : Fresh w1 w2) : StepTo w B g bs rest w2 := by
  obtain ⟨at', h1, h2, h3, h4⟩ := h
  exact ⟨at', h1, h2.frm F (fun f => f) (fun _ _ f => f), h3, h4.trans' F (fun _ _ f => f.elim)⟩
theorem ref_on {w1 : World} {B g : Nat} {bs : List UInt8} {at_ k : Nat} (h : RefAt w1 B g bs at_ false) : RefAt (w1.setCell ⟨g, 1, none⟩ (.int .i64 ((at_ : Int) + (k : Int)))) B g bs (at_ + k) false := by
  have hlt := h.lt
  obtain ⟨A, cap, h1, h2, h3, h4, h5⟩ := h
  have FS : Frm (fun k => k = g) w1 (w1.setCell ⟨g, 1, none⟩ (.int .i64 ((at_ : Int) + (k : Int)))) := (Frm.refl (fun k => k = g) w1).setCell (p := ⟨g, 1, none⟩) (fun _ => rfl) _
  refine ⟨A, cap, ?_, h2.frm (by omega) FS (fun p _ hp e => by omega), h3, h4, h5⟩
  have := h1.set 1 (.int .i64 ((at_ : Int) + (k : Int)))
  simpa using this
set_option maxRecDepth 100000 in
theorem rText_any (w : World) (B g : Nat) (bs : List UInt8) (at_ : Nat) (amis : Bool) (most : Int) (hmx : most ≤ 9223372036854775807) (hat : at_ ≤ bs.length) (hbl : bs.length ≤ 140737488355328) (h : RefAt w B g bs at_ amis) :
    Calls Tryz.prog 41 #[.pointer (some ⟨g, 0, none⟩), .int .i64 most] w fun e w' => RefText w B g bs (ifGood amis (textRes most (bs.drop at_))) e w' := by
  have H := zh h
  clear h
  go_in
  go_wp2_with fail
  refine (next_any w B g bs at_ amis hat hbl H.out).mono ?_
  intro e w1 hn
  obtain ⟨n, m, k, q, rfl, rfl, hr⟩ := hn
  have HF1 : Hid (Frm (fun k => k = g) w (w.drewN q)) := zh ((Frm.refl _ w).drewN q)
  have hsz : w.heap.size = (w.drewN q).heap.size := rfl
  have h1 : RefAt (w.drewN q) B g bs at_ amis := H.out.frm ((Frm.refl (fun _ => False) w).drewN q) (fun f => f) (fun _ _ f => f)
  have HSZ := zh hsz
  clear hsz
  generalize w.drewN q = w1 at HF1 h1 HSZ
  have H1 := zh h1
  obtain ⟨A, cap, hb, hrd, hle, hmost, hBg⟩ := h1
  have hd0 : ∀ n, (w1.drewN n).cell? ⟨g, 0, none⟩ = some (.slice A bs.length cap) := fun _ => hb.cell 0
  have hd1 : ∀ n, (w1.drewN n).cell? ⟨g, 1, none⟩ = some (.int .i64 (at_ : Int)) := fun _ => hb.cell 1
  have hd2 : ∀ n, (w1.drewN n).cell? ⟨g, 2, none⟩ = some (.bool amis) := fun _ => hb.cell 2
  have hf1 : ∀ n, (w1.drewN n).frozen? ⟨g, 1, none⟩ = false := fun _ => hb.frozen 1
  have hf2 : ∀ n, (w1.drewN n).frozen? ⟨g, 2, none⟩ = false := fun _ => hb.frozen 2
  have HB := zh hb
  have HRD := zh hrd
  unfold maxLen at hmost
  clear hb hrd
  rcases hr with ⟨hr, rfl, rfl, rfl⟩ | ⟨rest, hr, hk, hkl, hrest⟩
  · have HR := zh hr
    clear hr
    go_wp2_with fail
    go_quiet (fail)
    go_wp2_with fail
    go_ret
    rw [text_rdec, HR.out]
    exact text_no hat H1.out HF1.out _
  · obtain rfl := rdec_good hr
    have e0 : ((k : Int) == 0) = false := by simp; omega
    have HR := zh hr
    have HRE := zh hrest
    have hrl : rest.length = bs.length - (at_ + k) := by rw [hrest, List.length_drop]
    clear hr hrest
    cases m with
    | true =>
      go_wp2_with fail
      go_quiet (fail)
      go_wp2_with fail
      go_ret
      rw [text_rdec, HR.out]
      exact text_no hat H1.out HF1.out _
    | false =>
      by_cases q1 : 0 ≤ most
      · obtain ⟨mm, rfl⟩ := Int.eq_ofNat_of_zero_le q1
        have d1 : decide ((mm : Int) < 0) = false := decide_eq_false (by omega)
        have hcv : IntKind.u64.wrap (mm : Int) = (mm : Int) := u64_small hmx
        by_cases q2 : n ≤ mm
        · have d2 : decide (mm < n) = false := by simp; omega
          have s1 : IntKind.i64.wrap ((bs.length : Int) - (at_ : Int)) = (bs.length : Int) - (at_ : Int) := IntWalk.i64_in _ (by omega)
          have s2 : IntKind.i64.wrap ((bs.length : Int) - (at_ : Int) - (k : Int)) = (rest.length : Int) := by rw [show (bs.length : Int) - (at_ : Int) - (k : Int) = (rest.length : Int) by omega]; exact IntWalk.i64_in _ (by omega)
          have s3 : IntKind.u64.wrap (rest.length : Int) = (rest.length : Int) := u64_small (by omega)
          by_cases q3 : n ≤ rest.length
          · have d3 : decide (rest.length < n) = false := by simp; omega
            have HC := zh (show 0 ≤ (mm : Int) ∧ (n : Int) ≤ (mm : Int) ∧ n ≤ rest.length from ⟨q1, by omega, q3⟩)
            go_wp2_with fail
            go_quiet (fail)
            rename_i nq
            have s4 : IntKind.i64.wrap ((at_ : Int) + (k : Int)) = (at_ : Int) + (k : Int) := IntWalk.i64_in _ (by omega)
            have s5 : IntKind.i64.wrap (n : Int) = (n : Int) := IntWalk.i64_in _ (by omega)
            have s6 : IntKind.i64.wrap ((at_ : Int) + (k : Int) + (n : Int)) = (at_ : Int) + (k : Int) + (n : Int) := IntWalk.i64_in _ (by omega)
            clear s1 s2 s3 hcv d1 d2 d3
            go_wp2_with fail
            have hj : at_ + k + n ≤ bs.length := by omega
            have h2 : StepTo w B g bs (some (bs.drop (at_ + (k + n)))) ((w1.drewN nq).setCell ⟨g, 1, none⟩ (.int .i64 ((at_ : Int) + (k : Int) + (n : Int)))) ∧ RefAt ((w1.drewN nq).setCell ⟨g, 1, none⟩ (.int .i64 ((at_ : Int) + (k : Int) + (n : Int)))) B g bs (at_ + (k + n)) false ∧ w1.heap.size = ((w1.drewN nq).setCell ⟨g, 1, none⟩ (.int .i64 ((at_ : Int) + (k : Int) + (n : Int)))).heap.size := by
              rw [show (at_ : Int) + (k : Int) + (n : Int) = (at_ : Int) + ((k + n : Nat) : Int) by omega]
              have hh : RefAt (w1.drewN nq) B g bs at_ false := H1.out.frm ((Frm.refl (fun _ => False) w1).drewN nq) (fun f => f) (fun _ _ f => f)
              exact ⟨step_on (by omega) rfl hh (HF1.out.drewN nq), ref_on hh, by simp⟩
            generalize (w1.drewN nq).setCell ⟨g, 1, none⟩ (.int .i64 ((at_ : Int) + (k : Int) + (n : Int))) = w2 at h2
            obtain ⟨hst, h3, hsz⟩ := h2
            have HST := zh hst
            have HSZ2 := zh (HSZ.out.trans hsz)
            clear hst hsz hd0 hd1 hd2 hf1 hf2
            have hg3 := h3.lt
            obtain ⟨A3, cap3, hb3, hr3, hle3, hm3, hB3⟩ := h3
            have HR3 := zh hr3
            have CELL : Hid (∀ w', Fresh w2 w' → w'.cell? ⟨g, 0, none⟩ = some (.slice A3 bs.length cap3) ∧ w'.cell? ⟨g, 1, none⟩ = some (.int .i64 ((at_ : Int) + (k : Int) + (n : Int)))) := zh (fun w' F => by
              have hb := hb3.frm F (fun f => f)
              refine ⟨hb.cell 0, ?_⟩
              rw [show (at_ : Int) + (k : Int) + (n : Int) = ((at_ + (k + n) : Nat) : Int) by omega]
              exact hb.cell 1)
            have c0 := (CELL.out w2 (Frm.refl _ _)).1
            have c1 := (CELL.out w2 (Frm.refl _ _)).2
            clear hb3 hr3
            have k1 : (0 : Int) ≤ (at_ : Int) + (k : Int) := by omega
            have k2 : ((at_ : Int) + (k : Int)).toNat = at_ + k := by omega
            have k3 : (0 : Int) ≤ (at_ : Int) + (k : Int) + (n : Int) := by omega
            have k4 : ((at_ : Int) + (k : Int) + (n : Int)).toNat = at_ + k + n := by omega
            have k5 : at_ + k + n ≤ cap3 := by omega
            have k6 : (at_ : Int) + (k : Int) ≤ (at_ : Int) + (k : Int) + (n : Int) := by omega
            have k7 : at_ + k + n - (at_ + k) = n := by omega
            have k8 : (at_ : Int) + (k : Int) + (n : Int) ≤ (cap3 : Int) := by unfold maxLen at hm3; omega
            obtain ⟨i0, hi, hz0, hz1, hz2⟩ := info_parts info_u8
            have S0 : Hid (Sl (w2.alloc (.cells #[] 5)) w2.heap.size 5 1 (.slice (some ⟨w2.heap.size, 0, none⟩) 0 0) 0 []) := zh (sl_new w2 _ [] _ (Nat.le_refl _) (by simp [maxLen]))
            have htl : ((rest.take n).map bv).length = n * 1 := by rw [List.length_map, List.length_take]; omega
            have R0 : Hid (Rd (w2.alloc (.cells #[] 5)) B (if cap3 = at_ + k then A3 else Option.map (fun x => x.add (at_ + k)) A3) ((rest.take n).map bv)) := zh (by
              have h := ((HR3.out.alloc (by omega) (.cells #[] 5)).rest (n := at_ + k) (cap := cap3) (by simpa using hle3)).take n
              rwa [← List.map_drop, ← List.map_take, ← HRE.out] at h)
            clear hrl
            go_region_held3 (fun w' => w'.cell? ⟨g, 0, none⟩ = some (.slice A3 bs.length cap3) ∧ w'.cell? ⟨g, 1, none⟩ = some (.int .i64 ((at_ : Int) + (k : Int) + (n : Int))))
              (first | exact CELL.out _ ((Frm.refl _ w2).drew) | exact CELL.out _ (((Frm.refl _ w2).alloc _).drew) | exact CELL.out _ (((Frm.refl _ w2).drew).alloc _) | exact CELL.out _ HF4.out)
              (first
                | (refine rd_step_append_sl (by rfl) (.tmp 63) (.tmp 73) 56 (by rfl) w2.heap.size 5 i0 _ 1 1 Tryz.underlying56 hi hz0 hz1 hz2 rfl (by omega) (.slice (some ⟨w2.heap.size, 0, none⟩) 0 0) 0 [] (by rfl) S0.out B (if cap3 = at_ + k then A3 else Option.map (fun x => x.add (at_ + k)) A3) n (cap3 - (at_ + k)) ((rest.take n).map bv) (by rfl) htl R0.out (bv_one _) (by unfold maxLen; omega) (by omega) (by simp) ?_; intro v4 w4 hs4 hf4 ha4; have HF4 : Hid (Fresh w2 w4) := zh ((((Frm.refl _ w2).alloc _).drew).trans' hf4 (fun i hi hk => by have := own_at hk; omega)); have HS4 := zh hs4; clear hs4 hf4 ha4))
            have hs4 := HS4.out
            rw [Nat.zero_add, List.nil_append] at hs4
            have HS5 := zh hs4
            clear hs4 c0 c1 R0
            generalize (if cap3 = at_ + k then A3 else Option.map (fun x => x.add (at_ + k)) A3) = A5
            go_wp2_with fail
            go_ret
            rw [text_rdec, HR.out]
            simp only [if_pos HC.out]
            refine ⟨v4, rest.take n, rfl, rfl, ?_, ?_⟩
            · have h := HS5.out.less (Nat.le_of_eq HSZ2.out)
              rwa [show (rest.take n).length = n from by simpa using htl]
            · rw [show (some (rest.take n, rest.drop n)).map (·.2) = some (bs.drop (at_ + (k + n))) from by rw [HRE.out, List.drop_drop]; simp [Nat.add_assoc]]
              exact step_fresh HST.out HF4.out
          · have d3 : decide (rest.length < n) = true := by simp; omega
            have HC := zh (show ¬ (0 ≤ (mm : Int) ∧ (n : Int) ≤ (mm : Int) ∧ n ≤ rest.length) from fun h => q3 h.2.2)
            go_wp2_with fail
            go_quiet (fail)
            go_wp2_with fail
            go_ret
            rw [text_rdec, HR.out]
            simp only [if_neg HC.out]
            exact text_no hat H1.out HF1.out _
        · have d2 : decide (mm < n) = true := by simp; omega
          have HC := zh (show ¬ (0 ≤ (mm : Int) ∧ (n : Int) ≤ (mm : Int) ∧ n ≤ rest.length) from fun h => q2 (by have := h.2.1; omega))
          go_wp2_with fail
          go_quiet (fail)
          go_wp2_with fail
          go_ret
          rw [text_rdec, HR.out]
          simp only [if_neg HC.out]
          exact text_no hat H1.out HF1.out _
      · have d1 : decide (most < 0) = true := by simp; omega
        have HC := zh (show ¬ (0 ≤ most ∧ (n : Int) ≤ most ∧ n ≤ rest.length) from fun h => q1 h.1)
        go_wp2_with fail
        go_quiet (fail)
        go_wp2_with fail
        go_ret
        rw [text_rdec, HR.out]
        simp only [if_neg HC.out]
        exact text_no hat H1.out HF1.out _
end
end Go.Proofs.YtbeaoddjomdlcaaGreatDoor

/- The laws RecordScans, RecordAgain walked. -/
import Derived.Test.YtpfelhgihbeeeaaScan2
namespace Go.Proofs.Ytpfelhgihbeeeaa
open Go.RowKit

set_option maxHeartbeats 1000000 in
theorem scans_walk (w : World) (A : Option Addr) (cap : Nat) (bs : List UInt8) (hb : IsBytes w A cap bs) (hr : cap ≤ 140737488351232) :
    Calls Try.prog 5 #[.slice A bs.length cap] w fun e w' => e = .returned (.bool true) ∧ Below w.heap.size w w' := by
  have HB := Lib.hid hb.rd
  have hle := hb.le
  clear hb
  go_enter Try.func5, Try.ntmps5
  go_wp2_with fail
  refine (awake_any w).mono ?_
  rintro e w1 ⟨rfl, hf1⟩
  have HF1 := Lib.hid hf1
  clear hf1
  by_cases q0 : 1000000 < bs.length
  · have q0i : (1000000 : Int) < (bs.length : Int) := by omega
    go_wp2_with fail
    go_ret
    exact ⟨rfl, HF1.out.below⟩
  · have q0i : ¬ (1000000 : Int) < (bs.length : Int) := by omega
    go_wp2_with fail
    refine (scan_any w1 A cap bs ((HB.out.fresh (Nat.le_refl _) HF1.out).more HF1.out.size) (by omega) hle (by omega)).mono ?_
    rintro e w2 ⟨v, rfl, hl2, hf2⟩
    have HF2 := Lib.hid (HF1.out.trans hf2)
    have HL2 := Lib.hid hl2
    clear hl2 hf2
    go_wp2_with fail
    refine (refScan_any w2 A cap bs ((HB.out.fresh (Nat.le_refl _) HF2.out).more HF2.out.size) (by omega) hle hr).mono ?_
    rintro e w3 ⟨v', rfl, hl3, hf3⟩
    have HF3 := Lib.hid (HF2.out.trans hf3)
    obtain ⟨A2, c2, rfl, h21, h22, r2⟩ := (HL2.out.fresh hf3).reads
    obtain ⟨A3, c3, rfl, h31, h32, r3⟩ := hl3.reads
    have hcnt := recs_cnt (scan bs).1
    have hsl := scan_len bs
    have hs2 := (recs_scan bs).2
    have hlen : (scan bs).1.length ≤ 1000000000 := by omega
    have HS := Lib.hid (same_any w3 A2 A3 c2 c3 (scan bs).1 r2 r3 hlen)
    clear r2 r3 hl3 hf3 hcnt hsl hs2 hlen h21 h22 h31 h32 HL2
    generalize (scan bs).1.length = k at HS
    generalize (scan bs).2 = m
    go_wp2_with fail
    refine HS.out.mono ?_
    rintro e w4 ⟨rfl, n, rfl⟩
    go_wp2_with fail
    go_ret
    exact ⟨by simp, Fresh.below (HF3.out.drewN n)⟩

theorem scanF_all : ∀ (f : Nat) (bs : List UInt8), ∀ x ∈ (scanF f bs).1, x.length ≤ 65536 := by
  intro f
  induction f with
  | zero => intro bs x hx; simp [scanF] at hx
  | succ f ih =>
    intro bs x hx
    rw [scanF] at hx
    cases hs : scan1 bs with
    | none => rw [hs] at hx; cases hx
    | some y =>
      rw [hs] at hx
      rcases List.mem_cons.1 hx with rfl | hx
      · unfold scan1 at hs
        split at hs
        · rename_i hc
          injection hs with hs
          rw [← hs, List.length_take]
          omega
        · cases hs
      · exact ih _ x hx
theorem recs_take_le (l : List (List UInt8)) (k : Nat) : (recs (l.take k)).length ≤ (recs l).length := by
  conv => rhs; rw [← List.take_append_drop k l]
  rw [recs, recs, List.flatMap_append, List.length_append]
  omega
theorem scan_fits {bs : List UInt8} (h : bs.length ≤ 500000) : Fits (scan bs).1 := by
  intro k hk
  refine ⟨scanF_all _ bs _ (List.getElem_mem hk), ?_⟩
  have h1 := recs_take_le (scan bs).1 k
  have h2 := scan_len bs
  have h3 := (recs_scan bs).2
  omega
set_option maxHeartbeats 1000000 in
theorem again_walk (w : World) (A : Option Addr) (cap : Nat) (bs : List UInt8) (hb : IsBytes w A cap bs) (hr : cap ≤ 140737488351232) :
    Calls Try.prog 8 #[.slice A bs.length cap] w fun e w' => e = .returned (.bool true) ∧ Below w.heap.size w w' := by
  have HB := Lib.hid hb.rd
  have hle := hb.le
  clear hb
  go_enter Try.func8, Try.ntmps8
  go_wp2_with fail
  refine (awake_any w).mono ?_
  rintro e w1 ⟨rfl, hf1⟩
  have HF1 := Lib.hid hf1
  clear hf1
  by_cases q0 : 500000 < bs.length
  · have q0i : (500000 : Int) < (bs.length : Int) := by omega
    go_wp2_with fail
    go_ret
    exact ⟨rfl, HF1.out.below⟩
  · have q0i : ¬ (500000 : Int) < (bs.length : Int) := by omega
    go_wp2_with fail
    refine (scan_any w1 A cap bs ((HB.out.fresh (Nat.le_refl _) HF1.out).more HF1.out.size) (by omega) hle (by omega)).mono ?_
    rintro e w2 ⟨v, rfl, hl2, hf2⟩
    have HF2 := Lib.hid (HF1.out.trans hf2)
    obtain ⟨A2, c2, rfl, h21, h22, r2⟩ := hl2.reads
    have hcnt := recs_cnt (scan bs).1
    obtain ⟨hrec, hs2⟩ := recs_scan bs
    have hsl := scan_len bs
    have HW := Lib.hid (whole_any w2 A2 c2 (scan bs).1 r2 (by omega))
    have HR := Lib.hid hrec
    have HFT := Lib.hid (scan_fits (bs := bs) (by omega))
    clear hcnt hrec r2 hl2 hf2 hsl h21 h22
    obtain ⟨l, hl⟩ : ∃ l, l = (scan bs).1 := ⟨_, rfl⟩
    obtain ⟨m, hm⟩ : ∃ m, m = (scan bs).2 := ⟨_, rfl⟩
    rw [← hl] at HW HR HFT ⊢
    rw [← hm] at HR hs2 ⊢
    clear hl hm
    go_wp2_with fail
    refine HW.out.mono ?_
    rintro e w3 ⟨hf3, h | h⟩
    · obtain ⟨_, v3, v32, rfl, hs3, hs32⟩ := h
      obtain ⟨A3, c3, rfl, _, _, _⟩ := hs3.shape
      obtain ⟨A32, c32, rfl, _, _, _⟩ := hs32.shape
      have HF3 := Lib.hid (HF2.out.trans hf3)
      have hlen : (recs l).length = m := by rw [HR.out, List.length_take]; omega
      rw [hlen] at hs3 ⊢
      have r3 := hs3.rd
      rw [HR.out] at r3
      have hml : (bs.take m).length = m := by rw [List.length_take]; omega
      have r1 : Rd w3 w3.heap.size A ((bs.take m).map bv) := by
        rw [List.map_take]
        exact (((HB.out.fresh (Nat.le_refl _) HF3.out).more HF3.out.size).take m)
      have q1 : ∀ n, (convert 22 9 (.slice A3 m c3)).run Try.prog (w3.drewN n) = .ok (.string (str (bs.take m))) (w3.drewN n) := fun n => conv_u c3 (r3.drewN n) hml.symm
      have q2 : ∀ n, (convert 22 9 (.slice A m cap)).run Try.prog (w3.drewN n) = .ok (.string (str (bs.take m))) (w3.drewN n) := fun n => conv_u cap (r1.drewN n) hml.symm
      generalize str (bs.take m) = ss at q1 q2
      have m0 : (0 : Int) ≤ (m : Int) := by omega
      have m1 : (m : Int) ≤ (bs.length : Int) := by omega
      have m2 : m ≤ cap := by omega
      have m3 : (m : Int) ≤ (cap : Int) := by omega
      clear hs3 hs32 hf3 r3 r1 hml hlen HR HFT HW
      go_wp2_with fail
      go_quiet (fail)
      go_wp2_with fail
      go_ret
      exact ⟨by simp, Fresh.below (HF3.out.drewN _)⟩
    · exact absurd HFT.out h.1
end Go.Proofs.Ytpfelhgihbeeeaa

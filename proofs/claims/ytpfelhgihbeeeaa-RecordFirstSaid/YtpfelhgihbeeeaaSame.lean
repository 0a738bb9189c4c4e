/- What the reference's Same computes of two lists that are the same. -/
import Derived.Test.YtpfelhgihbeeeaaScanRef
namespace Go.Proofs.Ytpfelhgihbeeeaa
open Go.RowKit

theorem drewN_add (w : World) (k n : Nat) : (w.drewN k).drewN n = w.drewN (k + n) := by simp [World.drewN, Nat.add_assoc]
/-- a list of byte slices that can be read -/
def RdLs (w : World) (A : Option Addr) (l : List (List UInt8)) : Prop :=
  ∃ bl : List Bs, Rd w w.heap.size A (bl.map bsv) ∧ (∀ b ∈ bl, Rd w w.heap.size b.1 (b.2.2.map bv)) ∧ bl.map (·.2.2) = l
theorem RdLs.fresh {w w' : World} {A : Option Addr} {l : List (List UInt8)} (h : RdLs w A l) (F : Fresh w w') : RdLs w' A l := by
  obtain ⟨bl, h1, h2, h3⟩ := h
  exact ⟨bl, (h1.fresh (Nat.le_refl _) F).more F.size, fun b hb => ((h2 b hb).fresh (Nat.le_refl _) F).more F.size, h3⟩
theorem Lists.reads {w : World} {B : Nat} {v : Value} {l : List (List UInt8)} (h : Lists w B v l) : ∃ A cap, v = .slice A l.length cap ∧ l.length ≤ cap ∧ cap ≤ maxLen ∧ RdLs w A l := by
  obtain ⟨bl, h1, h2, h3⟩ := h
  have hl : bl.length = l.length := by rw [← h3, List.length_map]
  rw [hl] at h1
  obtain ⟨A, cap, rfl, hc, hm, _⟩ := h1.shape
  exact ⟨A, cap, rfl, hc, hm, bl, h1.rd, fun b hb => (h2 b hb).rd, h3⟩
theorem RdLs.at_ {w : World} {A : Option Addr} {l : List (List UInt8)} (h : RdLs w A l) {k : Nat} (hk : k < l.length) :
    ∃ b o A' c', A = some ⟨b, o, none⟩ ∧ w.cell? ⟨b, o + k, none⟩ = some (.slice A' (l[k]).length c') ∧ Rd w w.heap.size A' ((l[k]).map bv) := by
  obtain ⟨bl, h1, h2, h3⟩ := h
  subst h3
  have hkb : k < bl.length := by simpa using hk
  obtain ⟨b, o, hA, _, hc⟩ := h1.at_ (k := k) (by simpa using hkb)
  rw [List.getElem_map] at hc
  have h := h2 _ (List.getElem_mem hkb)
  refine ⟨b, o, bl[k].1, bl[k].2.1, hA, ?_, ?_⟩
  · rw [hc]; simp [bsv]
  · simpa using h
set_option maxHeartbeats 1000000 in
theorem same_any (w : World) (A A' : Option Addr) (c c' : Nat) (l : List (List UInt8)) (h1 : RdLs w A l) (h2 : RdLs w A' l) (hl : l.length ≤ 1000000000) :
    Calls Try.prog 15 #[.slice A l.length c, .slice A' l.length c'] w fun e w' => e = .returned (.bool true) ∧ ∃ n, w' = w.drewN n := by
  have H1 := Lib.hid h1
  have H2 := Lib.hid h2
  clear h1 h2
  go_enter Try.func15, Try.ntmps15
  go_wp2_with fail
  go_loopw [5] (fun v5 wr => ∃ k : Nat, k ≤ l.length ∧ v5 = .int .i64 (k : Int) ∧ ∃ q, wr = w.drewN q) (fun v5 _ => l.length - (intOf v5).toNat)
  case atStart => exact ⟨0, by omega, rfl, 0, rfl⟩
  case round =>
    obtain ⟨k, hk, rfl, q, hq⟩ := hrel
    have F : Fresh w wr := by rw [hq]; exact (Frm.refl _ w).drewN q
    have HQ := Lib.hid hq
    clear hq
    by_cases hkl : k < l.length
    · obtain ⟨b, o, B, d, rfl, hc, hr⟩ := (H1.out.fresh F).at_ hkl
      obtain ⟨b2, o2, B2, d2, rfl, hc2, hr2⟩ := (H2.out.fresh F).at_ hkl
      have e1 : ∀ n, (wr.drewN n).cell? ⟨b, o + k, none⟩ = some (.slice B (l[k]).length d) := fun _ => hc
      have e2 : ∀ n, (wr.drewN n).cell? ⟨b2, o2 + k, none⟩ = some (.slice B2 (l[k]).length d2) := fun _ => hc2
      have q1 : ∀ n, (convert 22 9 (.slice B (l[k]).length d)).run Try.prog (wr.drewN n) = .ok (.string (str l[k])) (wr.drewN n) := fun n => conv_u d (hr.drewN n) rfl
      have q2 : ∀ n, (convert 22 9 (.slice B2 (l[k]).length d2)).run Try.prog (wr.drewN n) = .ok (.string (str l[k])) (wr.drewN n) := fun n => conv_u d2 (hr2.drewN n) rfl
      clear hc hc2 hr hr2 F
      generalize str l[k] = ss at q1 q2
      generalize (l[k]).length = n1 at e1 e2 q1 q2
      have hk0 : (0 : Int) ≤ k := by omega
      have hk2 : (k : Int) < l.length := by omega
      go_wp2_with fail
      go_quiet (fail)
      go_wp2_with fail
      go_roundw
      case rel => exact ⟨k + 1, by omega, by go_num, by rw [HQ.out]; exact ⟨_, drewN_add _ _ _⟩⟩
      case measure => simp [intOf]; omega
    · obtain rfl : k = l.length := by omega
      go_wp2_with fail
      go_ret
      exact ⟨rfl, q, HQ.out⟩
end Go.Proofs.Ytpfelhgihbeeeaa

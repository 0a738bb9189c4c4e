/- What the reference of package nest computes. -/
import Derived.Test.YtgkkkibagbdlcaaNest2
namespace Go.Proofs.Ytgkkkibagbdlcaa
open Go.RowKit NestM

theorem cell_at {w : World} {B : Nat} {A : Option Addr} {l : List Int} (h : Rd w B A (l.map iv)) {k : Nat} (hk : k < l.length) : ∃ b o, A = some ⟨b, o, none⟩ ∧ w.cell? ⟨b, o + k, none⟩ = some (.int .i64 (at_ l k)) := by
  obtain ⟨b, o, hA, _, hc⟩ := h.at_ (k := k) (by simpa using hk)
  rw [List.getElem_map] at hc
  exact ⟨b, o, hA, by rw [hc, at_get hk]; rfl⟩
def Lim (l : List Int) : Prop := 1 ≤ l.length ∧ l.length ≤ 8 ∧ ∀ j, j < l.length → wi (at_ l j) = true ∧ (0 < j → at_ l j ≤ at_ l (j - 1))
def LimPost (l : List Int) (w : World) (e : Ending) (w' : World) : Prop := ∃ b n, e = .returned (.bool b) ∧ w' = w.drewN n ∧ (b = true ↔ Lim l)
def Small (s : List Int) : Prop := s.length ≤ 8 ∧ ∀ j, j < s.length → wi (at_ s j) = true
theorem sfx_part {s : List Int} (h : Small s) (i : Nat) : ∀ k, k ≤ i → i ≤ s.length → 0 ≤ sfx s k - sfx s i ∧ sfx s k - sfx s i ≤ 10000 * (i - k : Nat) := by
  intro k hk hi
  obtain ⟨d, rfl⟩ : ∃ d, i = k + d := ⟨i - k, by omega⟩
  clear hk
  induction d with
  | zero => simp
  | succ d ih =>
    have h1 := ih (by omega)
    have h2 := wi_true (h.2 (k + d) (by omega))
    have h3 := sfx_step (s := s) (k := k + d) (by omega)
    rw [show k + (d + 1) = k + d + 1 by omega]
    omega
set_option maxHeartbeats 2000000 in
theorem refFrom_any (w : World) (A : Option Addr) (ca : Nat) (s : List Int) (k : Nat) (hk : k ≤ s.length) (hsm : Small s) (hl : Rd w w.heap.size A (s.map iv)) :
    Calls Try.prog 24 #[.slice A s.length ca, .int .i64 (k : Int)] w fun e w' => e = .returned (.int .i64 (sfx s k)) ∧ w' = w := by
  have HL := Lib.hid hl
  clear hl
  go_enter Try.func24, Try.ntmps24
  go_wp2_with fail
  go_loopw [5, 6] (fun v5 v6 wr => ∃ i : Nat, k ≤ i ∧ i ≤ s.length ∧ v5 = iv (sfx s k - sfx s i) ∧ v6 = iv i ∧ w = wr) (fun _ v6 _ => s.length - (intOf v6).toNat)
  case atStart => exact ⟨k, Nat.le_refl _, hk, by simp [iv], rfl, rfl⟩
  case round =>
    obtain ⟨i, hki, hi, rfl, rfl, rfl⟩ := hrel
    unfold iv
    by_cases hil : i < s.length
    · obtain ⟨b, o, rfl, hc⟩ := cell_at HL.out hil
      have hi0 : (0 : Int) ≤ i := by omega
      have hs8 := hsm.1
      have hp := sfx_part hsm i k hki hi
      have hp0 : 0 ≤ sfx s k - sfx s i := hp.1
      have hp1 : sfx s k - sfx s i ≤ 100000 := by have := hsm.1; omega
      have hv := wi_true (hsm.2 i hil)
      have hv0 := hv.1
      have hv1 := hv.2
      have HST := Lib.hid (sfx_step hil)
      clear hp hv
      go_wp2_with fail
      go_roundw
      case rel => exact ⟨i + 1, by omega, by omega, by rw [HST.out]; congr 1; omega, by go_num, by first | rfl | trivial⟩
      case measure => simp [intOf]; omega
    · obtain rfl : i = s.length := by omega
      have e : sfx s s.length = 0 := sfx_end (Nat.le_refl _)
      rw [e, Int.sub_zero]
      go_wp2_with fail
      go_ret
      exact ⟨rfl, rfl⟩
end Go.Proofs.Ytgkkkibagbdlcaa

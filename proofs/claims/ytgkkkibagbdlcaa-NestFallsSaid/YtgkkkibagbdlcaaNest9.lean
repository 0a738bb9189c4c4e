/- Whether two slices hold the same numbers; the laws NestSells, NestReturns, NestOther walked. -/
import Derived.Test.YtgkkkibagbdlcaaNest8
import Derived.Test.YtgkkkibagbdlcaaReads
namespace Go.Proofs.Ytgkkkibagbdlcaa
open Go.RowKit NestM

theorem same_iff (a b : List Int) (h : a.length = b.length) : a = b ↔ ∀ i, i < a.length → at_ a i = at_ b i := by
  constructor
  · rintro rfl i _; rfl
  · intro hh
    refine List.ext_getElem h fun i h1 h2 => ?_
    have := hh i h1
    rwa [at_get h1, at_get h2] at this
def SamePost (a b : List Int) (w : World) (e : Ending) (w' : World) : Prop := ∃ r n, e = .returned (.bool r) ∧ w' = w.drewN n ∧ (r = true ↔ a = b)
set_option maxHeartbeats 800000 in
theorem same_any (w : World) (A : Option Addr) (ca : Nat) (a : List Int) (B : Option Addr) (cb : Nat) (b : List Int) (ha : Rd w w.heap.size A (a.map iv)) (hb : Rd w w.heap.size B (b.map iv)) (hal : a.length ≤ 1000000) :
    Calls Try.prog 17 #[.slice A a.length ca, .slice B b.length cb] w fun e w' => SamePost a b w e w' := by
  have HA := Lib.hid ha
  have HB := Lib.hid hb
  clear ha hb
  by_cases hl : a.length = b.length
  · have HLEN := Lib.hid hl
    rw [← hl]
    have hbl : b.length ≤ a.length := by omega
    have hbl2 : a.length ≤ b.length := by omega
    clear hl
    go_enter Try.func17, Try.ntmps17
    go_wp2_with fail
    go_loopw [5] (fun v5 wr => ∃ i n : Nat, i ≤ a.length ∧ (∀ j, j < i → at_ a j = at_ b j) ∧ v5 = iv i ∧ w.drewN n = wr) (fun v5 _ => a.length - (intOf v5).toNat)
    case atStart => exact ⟨0, 0, by omega, fun j h => by omega, rfl, rfl⟩
    case round =>
      obtain ⟨i, n, hi, hok, rfl, rfl⟩ := hrel
      have HOK := Lib.hid hok
      clear hok
      unfold iv
      by_cases hil : i < a.length
      · obtain ⟨bA, oA, rfl, hcA⟩ := cell_at HA.out hil
        obtain ⟨bB, oB, rfl, hcB⟩ := cell_at HB.out (show i < b.length by omega)
        have hc1 : ∀ n, (w.drewN n).cell? ⟨bA, oA + i, none⟩ = some (.int .i64 (at_ a i)) := fun _ => hcA
        have hc2 : ∀ n, (w.drewN n).cell? ⟨bB, oB + i, none⟩ = some (.int .i64 (at_ b i)) := fun _ => hcB
        have hi0 : (0 : Int) ≤ i := by omega
        have hi1 : (i : Int) < a.length := by omega
        by_cases g : at_ a i = at_ b i
        · have G := Lib.hid g
          have d1 : (at_ a i != at_ b i) = false := by simpa using g
          clear g
          go_wp2_with fail
          go_quiet (fail)
          go_wp2_with fail
          go_roundw
          case rel => exact ⟨i + 1, n + nq, by omega, (fun k hk => by
            rcases Nat.lt_or_ge k i with e | e
            · exact HOK.out k e
            · obtain rfl : k = i := by omega
              exact G.out), by go_num, by first | rfl | trivial⟩
          case measure => simp [intOf]; omega
        · have G := Lib.hid g
          have d1 : (at_ a i != at_ b i) = true := by simpa using g
          clear g
          go_wp2_with fail
          go_quiet (fail)
          go_wp2_with fail
          go_ret
          exact ⟨false, n + nq, rfl, drewN_add _ _ _, by simp; intro h; exact G.out (((same_iff a b HLEN.out).1 h) i hil)⟩
      · obtain rfl : i = a.length := by omega
        go_wp2_with fail
        go_ret
        exact ⟨true, n, rfl, rfl, by simp; exact (same_iff a b HLEN.out).2 HOK.out⟩
  · have h3 : ((a.length : Int) != (b.length : Int)) = true := by rw [bne_iff_ne]; intro h; exact hl (by omega)
    have HNE := Lib.hid (show ¬ (a = b) from fun h => hl (by rw [h]))
    go_enter Try.func17, Try.ntmps17
    go_wp2_with fail
    go_ret
    exact ⟨false, 0, rfl, rfl, by simp; exact HNE.out⟩

theorem two_of {xs : List Int} (h : xs.length = 2) : ∃ a b, xs = [a, b] := by
  match xs, h with
  | [a, b], _ => exact ⟨a, b, rfl⟩
theorem three_of {xs : List Int} (h : xs.length = 3) : ∃ a b c, xs = [a, b, c] := by
  match xs, h with
  | [a, b, c], _ => exact ⟨a, b, c, rfl⟩
def i64f : List Int → List Value := fun xs => xs.flatMap fun n => [.int .i64 n]
/-- what came back, as a list that reads -/
theorem sold_rd {s : List Int} {E : Int → Prop} {c d : Int} {w w' : World} {e : Ending} (h : SoldPost s E c d w e w') :
    ∃ A cap t y, e = .returned (.tuple #[.slice A t.length cap, .int .i64 y]) ∧ E y ∧ Fresh w w' ∧ Rd w' w'.heap.size A (t.map iv) ∧ t.length ≤ cap ∧ cap ≤ maxLen ∧ t = (if y = 0 then plus s c.toNat d else []) := by
  obtain ⟨v, y, rfl, hE, F, h⟩ := h
  rcases h with ⟨hy, hs⟩ | ⟨hy, hv⟩
  · obtain ⟨A, cap, rfl, h1, h2, _⟩ := hs.shape
    refine ⟨A, cap, plus s c.toNat d, y, ?_, hE, F, hs.rd, ?_, h2, by rw [if_pos hy]⟩
    · rw [plus_length]
    · rw [plus_length]; exact h1
  · subst hv
    exact ⟨none, 0, [], y, rfl, hE, F, Rd.nil _ _ _, by simp, by simp [maxLen], by rw [if_neg hy]⟩
end Go.Proofs.Ytgkkkibagbdlcaa

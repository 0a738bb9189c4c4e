/- What the functions of package nest compute. -/
import Derived.Test.YtgkkkibagbdlcaaMem
import Derived.Test.YtgkkkibagbdlcaaOpen
import Derived.Test.YtgkkkibagbdlcaaNestMath
import Derived.Test.YtgkkkibagbdlcaaRows
import Derived.Handy
import Derived.Lib.Hide
import Derived.WalkLawsBesides
import Derived.Deep.QuietTactic
import Derived.BigQuiet
namespace Go.Proofs.Ytgkkkibagbdlcaa
open Go.RowKit NestM

theorem within_any (n : Int) (w : World) : Calls Try.prog 28 #[.int .i64 n] w fun e w' => e = .returned (.bool (wi n)) ∧ w' = w := by
  by_cases h : 0 ≤ n
  · go_enter Try.func28, Try.ntmps28
    go_wp2_with fail
    go_ret
    exact ⟨by simp [wi, h], rfl⟩
  · go_enter Try.func28, Try.ntmps28
    go_wp2_with fail
    go_ret
    exact ⟨by simp [wi]; omega, rfl⟩
theorem nothing_any (k x : Int) (w : World) : Calls Try.prog 25 #[.int .i64 k, .int .i64 x] w fun e w' => e = .returned (.tuple #[]) ∧ w' = w := by
  go_enter Try.func25, Try.ntmps25
  go_wp2_with fail
  go_end0
  exact ⟨rfl, rfl⟩

def iv (z : Int) : Value := .int .i64 z
/-- what is asked of one class after the other: what holds of the world when those from m on were asked -/
structure Asks (f : Nat) (caps : Array Value) (A B : Option Addr) (l s : List Int) (I : Nat → World → Prop) : Prop where
  enter : ∀ args w, (callFunc f args).run Try.prog w = .ok (.enter f args) w
  rdl : ∀ m w, I m w → Rd w w.heap.size A (l.map iv)
  rds : ∀ m w, I m w → Rd w w.heap.size B (s.map iv)
  drew : ∀ m w n, I m w → I m (w.drewN n)
  ask : ∀ m w, m < l.length → OkFrom l s m → I (m + 1) w → Calls Try.prog f (#[iv m, iv (at_ l m - sfx s m)] ++ caps) w fun e w' => e = .returned (.tuple #[]) ∧ I m w'

def LeftsPost (I : Nat → World → Prop) (l s : List Int) (e : Ending) (w' : World) : Prop := ∃ b m, e = .returned (.bool b) ∧ I m w' ∧ (b = true ↔ Right l s) ∧ (b = true → m = 0)
set_option maxHeartbeats 2000000 in
theorem lefts_any (f : Nat) (caps : Array Value) (A : Option Addr) (ca : Nat) (l : List Int) (B : Option Addr) (cb : Nat) (s : List Int) (I : Nat → World → Prop) (h : Asks f caps A B l s I) (w : World) (hw : I l.length w) :
    Calls Try.prog 22 #[.slice A l.length ca, .slice B s.length cb, .func (.func f) #[] caps] w fun e w' => LeftsPost I l s e w' := by
  by_cases hsh : Shape l s
  · obtain ⟨h1, h2, h3⟩ := hsh
    have HA := Lib.hid h
    have hcf := h.enter
    clear h
    go_enter Try.func22, Try.ntmps22
    go_wp2_with fail
    go_loopw [7, 8, 9] (fun v7 v8 v9 wr => ∃ m : Nat, m ≤ l.length ∧ OkFrom l s m ∧ v7 = iv (sfx s m) ∧ v8 = .bool (fine l s m) ∧ v9 = iv ((m : Int) - 1) ∧ I m wr) (fun _ _ v9 _ => (intOf v9 + 1).toNat)
    case atStart => exact ⟨l.length, Nat.le_refl _, fun j h1 h2 => by omega, by rw [sfx_end (by omega)]; rfl, by rw [fine_end], rfl, hw⟩
    case round =>
      obtain ⟨m, hm, hok, rfl, rfl, rfl, hI⟩ := hrel
      by_cases hm0 : 0 < m
      · obtain ⟨k, rfl⟩ : ∃ k, m = k + 1 := ⟨m - 1, by omega⟩
        have hkl : k < l.length := by omega
        have hks : k < s.length := by omega
        have e1 : ((k + 1 : Nat) : Int) - 1 = (k : Int) := by omega
        obtain ⟨bA, oA, rfl, _, hcA⟩ := (HA.out.rdl _ _ hI).at_ (k := k) (by simpa using hkl)
        obtain ⟨bB, oB, rfl, _, hcB⟩ := (HA.out.rds _ _ hI).at_ (k := k) (by simpa using hks)
        simp only [List.getElem_map] at hcA hcB
        rw [← at_get hkl] at hcA
        rw [← at_get hks] at hcB
        have hdA : ∀ n, (wr.drewN n).cell? ⟨bA, oA + k, none⟩ = some (.int .i64 (at_ l k)) := fun _ => hcA
        have hdB : ∀ n, (wr.drewN n).cell? ⟨bB, oB + k, none⟩ = some (.int .i64 (at_ s k)) := fun _ => hcB
        have hk0 : (0 : Int) ≤ k := by omega
        have hkl2 : (k : Int) < l.length := by omega
        have hks2 : (k : Int) < s.length := by omega
        by_cases hg : OkAt l s k
        · unfold iv
          rw [e1]
          obtain ⟨g1, g2, g3⟩ := hg
          have hb := sfx_bd h3 (l.length - (k + 1)) (k + 1) (by omega) hok
          have hb0 : 0 ≤ sfx s (k + 1) := hb.1
          have hb1 : sfx s (k + 1) ≤ 100000 := by omega
          have ga := wi_true g1
          have gb := wi_true g2
          obtain ⟨ga0, ga1⟩ := ga
          obtain ⟨gb0, gb1⟩ := gb
          have HST := Lib.hid (sfx_step hks)
          have HFS := Lib.hid (fine_step (s := s) hkl)
          clear hb
          have HOK := Lib.hid (show OkFrom l s k from fun j h1 h2 => by
            rcases Nat.eq_or_lt_of_le h1 with e | e
            · subst e; exact ⟨g1, g2, g3⟩
            · exact hok j e h2)
          have HASK0 : ∀ nq, Calls Try.prog f (#[Value.int IntKind.i64 ↑k, Value.int IntKind.i64 (at_ l k - (sfx s (k + 1) + at_ s k))] ++ caps) (wr.drewN nq) fun e w' => e = .returned (.tuple #[]) ∧ I k w' := by
            intro nq
            have := HA.out.ask k _ hkl HOK.out (HA.out.drew _ _ nq hI)
            rw [show sfx s (k + 1) + at_ s k = sfx s k by rw [HST.out]; omega]
            exact this
          have HASK := Lib.hid HASK0
          clear HASK0
          by_cases hkz : 0 < k
          · have g3 := g3 hkz
            obtain ⟨j, rfl⟩ : ∃ j, k = j + 1 := ⟨k - 1, by omega⟩
            obtain ⟨bA', oA', hab, _, hcA'⟩ := (HA.out.rdl _ _ hI).at_ (k := j) (by simp; omega)
            obtain ⟨rfl, rfl⟩ : bA = bA' ∧ oA = oA' := by simpa using hab
            simp only [List.getElem_map] at hcA'
            rw [← at_get (show j < l.length by omega)] at hcA'
            have hdA' : ∀ n, (wr.drewN n).cell? ⟨bA, oA + j, none⟩ = some (.int .i64 (at_ l j)) := fun _ => hcA'
            have hjl : j < l.length := by omega
            have hjl2 : (j : Int) < l.length := by omega
            simp only [Nat.add_sub_cancel] at g3
            have ga2 : ¬ at_ l j < at_ l (j + 1) := by omega
            cases hfi : fine l s (j + 1 + 1)
            · go_wp2_with fail
              go_quiet ((go_at_call 28; exact Calls.quiet_of_same (within_any _ _)))
              go_wp2_with fail
              refine (HASK.out _).mono ?_
              rintro e w2 ⟨rfl, hI2⟩
              go_wp2_with fail
              go_roundw
              case rel => exact ⟨j + 1, by omega, HOK.out, by rw [HST.out]; simp [iv]; omega, by rw [HFS.out, HST.out, hfi]; simp [Int.add_comm], by simp [iv], hI2⟩
              case measure => simp [intOf, iv]; try omega
            · go_wp2_with fail
              go_quiet ((go_at_call 28; exact Calls.quiet_of_same (within_any _ _)))
              go_wp2_with fail
              refine (HASK.out _).mono ?_
              rintro e w2 ⟨rfl, hI2⟩
              go_wp2_with fail
              go_roundw
              case rel => exact ⟨j + 1, by omega, HOK.out, by rw [HST.out]; simp [iv]; omega, by rw [HFS.out, HST.out, hfi]; simp [Int.add_comm], by simp [iv], hI2⟩
              case measure => simp [intOf, iv]; try omega
          · clear g3
            cases hfi : fine l s (k + 1)
            · go_wp2_with fail
              go_quiet ((go_at_call 28; exact Calls.quiet_of_same (within_any _ _)))
              go_wp2_with fail
              refine (HASK.out _).mono ?_
              rintro e w2 ⟨rfl, hI2⟩
              go_wp2_with fail
              go_roundw
              case rel => exact ⟨k, by omega, HOK.out, by rw [HST.out]; simp [iv]; omega, by rw [HFS.out, HST.out, hfi]; simp [Int.add_comm], by simp [iv], hI2⟩
              case measure => simp [intOf, iv]; try omega
            · go_wp2_with fail
              go_quiet ((go_at_call 28; exact Calls.quiet_of_same (within_any _ _)))
              go_wp2_with fail
              refine (HASK.out _).mono ?_
              rintro e w2 ⟨rfl, hI2⟩
              go_wp2_with fail
              go_roundw
              case rel => exact ⟨k, by omega, HOK.out, by rw [HST.out]; simp [iv]; omega, by rw [HFS.out, HST.out, hfi]; simp [Int.add_comm], by simp [iv], hI2⟩
              case measure => simp [intOf, iv]; try omega
        · have HNR := Lib.hid (show ¬ Right l s from fun hr => hg (hr.1.2 k (by omega) hkl))
          unfold iv
          rw [e1]
          cases g1 : wi (at_ l k)
          · go_wp2_with fail
            go_quiet ((go_at_call 28; exact Calls.quiet_of_same (within_any _ _)))
            go_wp2_with fail
            go_ret
            exact ⟨false, k + 1, rfl, HA.out.drew _ _ _ hI, by simp; exact HNR.out, by simp⟩
          cases g2 : wi (at_ s k)
          · go_wp2_with fail
            go_quiet ((go_at_call 28; exact Calls.quiet_of_same (within_any _ _)))
            go_wp2_with fail
            go_ret
            exact ⟨false, k + 1, rfl, HA.out.drew _ _ _ hI, by simp; exact HNR.out, by simp⟩
          · by_cases hkz : 0 < k
            · obtain ⟨j, rfl⟩ : ∃ j, k = j + 1 := ⟨k - 1, by omega⟩
              obtain ⟨bA', oA', hab, _, hcA'⟩ := (HA.out.rdl _ _ hI).at_ (k := j) (by simp; omega)
              obtain ⟨rfl, rfl⟩ : bA = bA' ∧ oA = oA' := by simpa using hab
              simp only [List.getElem_map] at hcA'
              rw [← at_get (show j < l.length by omega)] at hcA'
              have hdA' : ∀ n, (wr.drewN n).cell? ⟨bA, oA + j, none⟩ = some (.int .i64 (at_ l j)) := fun _ => hcA'
              have hjl : j < l.length := by omega
              have hjl2 : (j : Int) < l.length := by omega
              have ga2 : at_ l j < at_ l (j + 1) := Int.not_le.1 fun h => hg ⟨g1, g2, fun _ => h⟩
              clear hg
              go_wp2_with fail
              go_quiet ((go_at_call 28; exact Calls.quiet_of_same (within_any _ _)))
              go_wp2_with fail
              go_ret
              exact ⟨false, j + 1 + 1, rfl, HA.out.drew _ _ _ hI, by simp; exact HNR.out, by simp⟩
            · exact absurd ⟨g1, g2, fun h => absurd h hkz⟩ hg
      · obtain rfl : m = 0 := by omega
        unfold iv
        go_wp2_with fail
        go_ret
        exact ⟨fine l s 0, 0, rfl, hI, ⟨fun h => ⟨⟨⟨h1, h2, h3⟩, hok⟩, h⟩, fun h => h.2⟩, fun _ => rfl⟩
  · have HNR := Lib.hid (show ¬ Right l s from fun hr => hsh hr.1.1)
    by_cases h1 : l.length < 1
    · go_enter Try.func22, Try.ntmps22
      go_wp2_with fail
      go_ret
      exact ⟨false, l.length, rfl, hw, by simp; exact HNR.out, by simp⟩
    by_cases h2 : 8 < l.length
    · go_enter Try.func22, Try.ntmps22
      go_wp2_with fail
      go_ret
      exact ⟨false, l.length, rfl, hw, by simp; exact HNR.out, by simp⟩
    have h3 : ((s.length : Int) != (l.length : Int)) = true := by rw [bne_iff_ne]; intro h; exact hsh ⟨by omega, by omega, by omega⟩
    clear hsh
    go_enter Try.func22, Try.ntmps22
    go_wp2_with fail
    go_ret
    exact ⟨false, l.length, rfl, hw, by simp; exact HNR.out, by simp⟩

end Go.Proofs.Ytgkkkibagbdlcaa

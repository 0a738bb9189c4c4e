/- ContainsFunc over numbers; the tests that New and right hand over. -/
import Derived.Test.YtnmokpbomeamfaaTextP
import Derived.Test.YtnmokpbomeamfaaReads
namespace Go.Proofs.Ytnmokpbomeamfaa
open Go.RowKit

theorem ret_bool {a b : Bool} (h : a = b) : Ending.returned (.bool a) = .returned (.bool b) := by rw [h]
theorem ret_i64 {a b : Int} (h : a = b) : Ending.returned (.int .i64 a) = .returned (.int .i64 b) := by rw [h]
def iv (z : Int) : Value := .int .i64 z
def oddNode (n : Int) : Bool := decide (n < 1 ∨ 15 < n)
def oddNum (n : Int) : Bool := decide (n < 0 ∨ 1099511627776 < n)
theorem enter_any {P : Program} {f : FuncId} {fn : Func} {c : Code} (hf : P.funcs[f]? = some fn) (hname : (fn.name == "runtime.NumGoroutine") = false) (hb : fn.body = some c) (args : Array Value) (w : World) :
    (callFunc f args).run P w = .ok (.enter f args) w := by
  have h1 : fn.name ≠ "runtime.NumGoroutine" := by simpa using hname
  simp [callFunc, hf, h1, hb]
theorem oddNode_any (n : Int) (w : World) : Calls Try.prog 10 #[.int .i64 n] w fun e w' => e = .returned (.bool (oddNode n)) ∧ w' = w := by
  by_cases h1 : n < 1
  · have HE := Lib.hid (show oddNode n = true by unfold oddNode; simp; omega)
    go_enter Try.func10, Try.ntmps10
    go_wp2
    go_ret
    exact ⟨ret_bool HE.out.symm, rfl⟩
  · by_cases h2 : 15 < n
    · have HE := Lib.hid (show oddNode n = true by unfold oddNode; simp; omega)
      go_enter Try.func10, Try.ntmps10
      go_wp2
      go_ret
      exact ⟨ret_bool (by rw [HE.out] <;> simp [h2]), rfl⟩
    · have HE := Lib.hid (show oddNode n = false by unfold oddNode; simp; omega)
      go_enter Try.func10, Try.ntmps10
      go_wp2
      go_ret
      exact ⟨ret_bool (by rw [HE.out] <;> (simp; omega)), rfl⟩
theorem oddNum_any (n : Int) (w : World) : Calls Try.prog 25 #[.int .i64 n] w fun e w' => e = .returned (.bool (oddNum n)) ∧ w' = w := by
  by_cases h1 : n < 0
  · have HE := Lib.hid (show oddNum n = true by unfold oddNum; simp; omega)
    go_enter Try.func25, Try.ntmps25
    go_wp2
    go_ret
    exact ⟨ret_bool HE.out.symm, rfl⟩
  · by_cases h2 : 1099511627776 < n
    · have HE := Lib.hid (show oddNum n = true by unfold oddNum; simp; omega)
      go_enter Try.func25, Try.ntmps25
      go_wp2
      go_ret
      exact ⟨ret_bool (by rw [HE.out] <;> simp [h2]), rfl⟩
    · have HE := Lib.hid (show oddNum n = false by unfold oddNum; simp; omega)
      go_enter Try.func25, Try.ntmps25
      go_wp2
      go_ret
      exact ⟨ret_bool (by rw [HE.out] <;> (simp; omega)), rfl⟩
/-- a test of numbers that leaves all as it was -/
structure Tests (f : Nat) (p : Int → Bool) : Prop where
  enter : ∀ args w, (callFunc f args).run Try.prog w = .ok (.enter f args) w
  ask : ∀ n w, Calls Try.prog f #[.int .i64 n] w fun e w' => e = .returned (.bool (p n)) ∧ w' = w
theorem oddNode_tests : Tests 10 oddNode := ⟨fun args w => enter_any (P := Try.prog) (f := 10) Try.func10 (by kernel_rfl) rfl args w, oddNode_any⟩
theorem oddNum_tests : Tests 25 oddNum := ⟨fun args w => enter_any (P := Try.prog) (f := 25) Try.func25 (by kernel_rfl) rfl args w, oddNum_any⟩
def idx (p : Int → Bool) (l : List Int) : Int := if l.any p = true then (l.findIdx p : Int) else -1
theorem idx_at {p : Int → Bool} {l : List Int} {i : Nat} (h : i < l.length) (no : ∀ j (hj : j < l.length), j < i → p l[j] = false) (yes : p l[i] = true) : idx p l = (i : Int) := by
  have e : l.findIdx p = i := by
    rw [List.findIdx_eq h]
    exact ⟨yes, fun j hj => no j (by omega) hj⟩
  unfold idx
  rw [if_pos (List.any_eq_true.2 ⟨_, List.getElem_mem h, yes⟩), e]
theorem idx_no {p : Int → Bool} {l : List Int} (no : ∀ j (hj : j < l.length), p l[j] = false) : idx p l = -1 := by
  unfold idx
  rw [if_neg]
  intro h
  obtain ⟨x, hx, hp⟩ := List.any_eq_true.1 h
  obtain ⟨j, hj, rfl⟩ := List.mem_iff_getElem.1 hx
  rw [no j hj] at hp
  cases hp
theorem idx_any (p : Int → Bool) (l : List Int) : (decide (0 ≤ idx p l)) = l.any p := by
  unfold idx
  split
  · rename_i h; rw [h]; simp
  · rename_i h
    rw [show l.any p = false by simpa using h]
    decide
set_option maxHeartbeats 1000000 in
theorem indexFunc_any (f : Nat) (p : Int → Bool) (hf : Tests f p) (w : World) (A : Option Addr) (cap : Nat) (l : List Int) (hA : Rd w w.heap.size A (l.map iv)) (hl : l.length ≤ 1000000) :
    Calls Try.prog 19 #[.slice A l.length cap, .func (.func f) #[] #[]] w fun e w' => e = .returned (.int .i64 (idx p l)) ∧ w' = w := by
  have HA := Lib.hid hA
  have HT := Lib.hid hf
  have hcf := hf.enter
  clear hA hf
  go_enter Try.func19, Try.ntmps19
  go_wp2_with fail
  go_loop [8] (fun v8 => ∃ i : Nat, i ≤ l.length ∧ v8 = .int .i64 (i : Int) ∧ (∀ j (hj : j < l.length), j < i → p l[j] = false)) (fun v8 => l.length - (intOf v8).toNat)
  case atStart => exact ⟨0, by omega, rfl, fun _ _ h => by omega⟩
  case round =>
    obtain ⟨i, hi, rfl, hno⟩ := hrel
    have HNO := Lib.hid hno
    clear hno
    have hi0 : (0 : Int) ≤ (i : Int) := by omega
    by_cases hlt : i < l.length
    · obtain ⟨b, o, rfl, _, hc⟩ := HA.out.at_ (k := i) (by simpa using hlt)
      rw [List.getElem_map] at hc
      unfold iv at hc
      have hlti : (i : Int) < (l.length : Int) := by omega
      have HASK := Lib.hid (HT.out.ask l[i] w)
      obtain ⟨b', hb'⟩ : ∃ b', p l[i] = b' := ⟨_, rfl⟩
      have HB := Lib.hid hb'
      rw [hb'] at HASK
      clear hb'
      generalize l[i] = x at hc HASK
      cases b' with
      | true =>
        go_wp2_with fail
        refine HASK.out.mono ?_
        rintro e w' ⟨rfl, rfl⟩
        go_wp2_with fail
        go_ret
        exact ⟨ret_i64 (idx_at hlt HNO.out HB.out).symm, rfl⟩
      | false =>
        go_wp2_with fail
        refine HASK.out.mono ?_
        rintro e w' ⟨rfl, hw'⟩
        rw [hw']
        clear hw' w'
        go_wp2_with fail
        go_round
        case rel =>
          refine ⟨i + 1, by omega, by go_num, fun j hj hji => ?_⟩
          rcases Nat.lt_or_ge j i with h | h
          · exact HNO.out j hj h
          · obtain rfl : j = i := by omega
            exact HB.out
        case measure => simp [intOf]; omega
    · have hlti : ¬ (i : Int) < (l.length : Int) := by omega
      go_wp2_with fail
      go_ret
      exact ⟨ret_i64 (idx_no (fun j hj => HNO.out j hj (by omega))).symm, rfl⟩
theorem containsFunc_any (f : Nat) (p : Int → Bool) (hf : Tests f p) (w : World) (A : Option Addr) (cap : Nat) (l : List Int) (hA : Rd w w.heap.size A (l.map iv)) (hl : l.length ≤ 1000000) :
    Calls Try.prog 12 #[.slice A l.length cap, .func (.func f) #[] #[]] w fun e w' => e = .returned (.bool (l.any p)) ∧ w' = w := by
  have HI := Lib.hid (indexFunc_any f p hf w A cap l hA hl)
  have HE := Lib.hid (idx_any p l)
  clear hA hf
  go_enter Try.func12, Try.ntmps12
  go_wp2_with fail
  refine HI.out.mono ?_
  rintro e w' ⟨rfl, rfl⟩
  go_wp2_with fail
  go_ret
  exact ⟨ret_bool HE.out, rfl⟩
/-- over no commands -/
theorem containsNone_any (f : Value) (w : World) (cap : Nat) (A : Option Addr) :
    Calls Try.prog 13 #[.slice A 0 cap, f] w fun e w' => e = .returned (.bool false) ∧ w' = w := by
  have HI : Hid (∀ w, Calls Try.prog 20 #[.slice A 0 cap, f] w fun e w' => e = .returned (.int .i64 (-1)) ∧ w' = w) := Lib.hid fun w => by
    go_enter Try.func20, Try.ntmps20
    go_wp2_with fail
    go_loop [8] (fun v8 => v8 = .int .i64 0) (fun v8 => 0)
    case atStart => rfl
    case round =>
      subst hrel
      go_wp2_with fail
      go_ret
      exact ⟨rfl, rfl⟩
  go_enter Try.func13, Try.ntmps13
  go_wp2_with fail
  refine (HI.out w).mono ?_
  rintro e w' ⟨rfl, rfl⟩
  go_wp2_with fail
  go_ret
  exact ⟨rfl, rfl⟩
end Go.Proofs.Ytnmokpbomeamfaa

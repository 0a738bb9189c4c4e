/- The client's New, with no commands. -/
import Derived.Test.YtnmokpbomeamfaaCl3
namespace Go.Proofs.Ytnmokpbomeamfaa
open Go.RowKit

theorem info_int : (Try.prog.info? 3).map (fun i => (i.zero, i.size, i.bytes)) = some (some (.int .i64 0), 1, 8) := by kernel_rfl
theorem iv_one (l : List Int) : ∀ u ∈ l.map iv, u.oneCell' = true := by
  intro u hu
  obtain ⟨_, _, rfl⟩ := List.mem_map.1 hu
  rfl
theorem nil_no (w : World) (a : Addr) (n c : Nat) : (binOp .eql 27 (.slice (some a) n c) (.slice none 0 0)).run Try.prog w = .ok (.bool false) w := by
  first | rfl | kernel_rfl | (simp [binOp, go_sem, Try.underlying27])
theorem clone_any (w : World) (B : Option Addr) (cb : Nat) (s : List Int) (hs : Rd w w.heap.size B (s.map iv)) (hl : s.length ≤ 15) (hp : 0 < s.length) (hc : s.length ≤ cb) (hm : cb ≤ maxLen) :
    Calls Try.prog 14 #[.slice B s.length cb] w fun e w' => ∃ v, e = .returned v ∧ Sl w' w.heap.size 3 1 v s.length (s.map iv) ∧ Fresh w w' := by
  unfold maxLen at hm
  obtain ⟨bB, oB, rfl, _⟩ := hs.at_ (k := 0) (by simpa using hp)
  obtain ⟨i0, hi, hz0, hz1, hz2⟩ := info_parts info_int
  have HS := Lib.hid hs
  clear hs
  have hnn := fun w n c => nil_no w ⟨bB, oB, none⟩ n c
  go_enter Try.func14, Try.ntmps14
  have S0 := Lib.hid (show Sl (w.alloc (.cells #[] 3)) w.heap.size 3 1 (.slice (some ⟨w.heap.size, 0, none⟩) 0 0) 0 [] from sl_new w _ [] _ (Nat.le_refl _) (by simp [maxLen]))
  have f0 : Fresh w (w.alloc (.cells #[] 3)) := (Frm.refl _ w).alloc _
  go_wp2_with (first
    | (at_builtin; refine wpList_append_sl _ rfl (.tmp 5) (.tmp 6) _ rfl w.heap.size 3 i0 _ 1 8 Try.underlying27 hi hz0 hz1 hz2 rfl (by omega) _ _ _ rfl S0.out _ _ _ _ _ rfl (by simp) (HS.out.alloc (Nat.le_refl _) _) (iv_one _) (by unfold maxLen; omega) (by omega) (by simp) ?_; intro v1 w2 hs1 hf1 ha1))
  have F2 : Fresh w w2 := f0.trans' hf1 (fun i hi hk => by have := own_at hk; omega)
  rw [Nat.zero_add, List.nil_append] at hs1
  go_wp2_with fail
  go_ret
  exact ⟨_, rfl, hs1, F2⟩
abbrev DU : Type := DataW Unit
def clCells (id : Nat) (A : Option Addr) (nc n a wt gv mb : Nat) : Array Value :=
  #[.int .i64 (id : Int), .slice A n nc, .slice none 0 0, .int .i64 (a : Int), .int .i64 (wt : Int), .int .i64 0, .int .i64 1, .int .i64 (gv : Int), .map (some mb), .slice none 0 0, .bool false, .int .i64 0]
/-- a client that has begun nothing -/
structure Cl (w : World) (B b mb id : Nat) (A : Option Addr) (nc : Nat) (l : List Int) (a wt gv : Nat) : Prop where
  blk : Blk w b 45 (clCells id A nc l.length a wt gv mb)
  om : ∃ n, ∃ D : DU, w.ownsMap Try.prog 3 (plainElem Try.prog 4) mb n D ∧ n ≤ gv
  sl : Sl w B 3 1 (.slice A l.length nc) l.length (l.map iv)
  bge : B ≤ b
  mge : B ≤ mb
  pos : a < l.length
theorem new_no (w : World) (id : Int) (A : Option Addr) (cap : Nat) (l : List Int) (hA : Rd w w.heap.size A (l.map iv)) (h : id < 1 ∨ 1000 < id ∨ l.length < 1 ∨ 15 < l.length ∨ l.any oddNode = true) :
    Calls Try.prog 6 #[.int .i64 id, .slice A l.length cap, .slice none 0 0] w fun e w' => e = .returned (.tuple #[.pointer none, .int .i64 1]) ∧ w' = w := by
  by_cases h1 : id < 1
  · clear h
    go_enter Try.func6, Try.ntmps6
    go_wp2_with fail
    go_ret2
    exact ⟨rfl, rfl⟩
  by_cases h2 : 1000 < id
  · clear h
    go_enter Try.func6, Try.ntmps6
    go_wp2_with fail
    go_ret2
    exact ⟨rfl, rfl⟩
  by_cases h3 : l.length < 1
  · have h3i : (l.length : Int) < 1 := by omega
    clear h
    go_enter Try.func6, Try.ntmps6
    go_wp2_with fail
    go_ret2
    exact ⟨rfl, rfl⟩
  have h3i : ¬ (l.length : Int) < 1 := by omega
  by_cases h4 : 15 < l.length
  · have h4i : (15 : Int) < (l.length : Int) := by omega
    clear h
    go_enter Try.func6, Try.ntmps6
    go_wp2_with fail
    go_ret2
    exact ⟨rfl, rfl⟩
  have h4i : ¬ (15 : Int) < (l.length : Int) := by omega
  have h5 : l.any oddNode = true := by
    rcases h with h | h | h | h | h
    · exact absurd h h1
    · exact absurd h h2
    · exact absurd h h3
    · exact absurd h h4
    · exact h
  have H := containsFunc_any _ _ oddNode_tests w A cap l hA (by omega)
  rw [h5] at H
  have HC := Lib.hid H
  clear H h5 h
  go_enter Try.func6, Try.ntmps6
  go_wp2_with fail
  refine HC.out.mono ?_
  rintro e w' ⟨rfl, rfl⟩
  go_wp2_with fail
  go_ret2
  exact ⟨rfl, rfl⟩
def NewPost (w : World) (id : Nat) (l : List Int) (e : Ending) (w' : World) : Prop :=
  ∃ b mb A nc, e = .returned (.tuple #[.pointer (some ⟨b, 0, none⟩), .int .i64 0]) ∧ Cl w' w.heap.size b mb id A nc l 0 0 0 ∧ Fresh w w'
set_option maxHeartbeats 1000000 in
theorem new_yes (w : World) (id : Nat) (A : Option Addr) (cap : Nat) (l : List Int) (hA : Rd w w.heap.size A (l.map iv)) (h1 : 1 ≤ id) (h2 : id ≤ 1000) (h3 : 1 ≤ l.length) (h4 : l.length ≤ 15) (h5 : l.any oddNode = false) (hc : l.length ≤ cap) (hm : cap ≤ maxLen) :
    Calls Try.prog 6 #[.int .i64 (id : Int), .slice A l.length cap, .slice none 0 0] w fun e w' => NewPost w id l e w' := by
  have H := containsFunc_any _ _ oddNode_tests w A cap l hA (by omega)
  rw [h5] at H
  have HC := Lib.hid H
  have HCL := Lib.hid (clone_any w A cap l hA h4 (by omega) hc hm)
  have hmm := @run_makeMap Try.prog
  have h1i : ¬ (id : Int) < 1 := by omega
  have h2i : ¬ (1000 : Int) < (id : Int) := by omega
  have h3i : ¬ (l.length : Int) < 1 := by omega
  have h4i : ¬ (15 : Int) < (l.length : Int) := by omega
  clear H h5
  go_enter Try.func6, Try.ntmps6
  go_wp2_with fail
  refine HC.out.mono ?_
  rintro e w' ⟨rfl, hw'⟩
  rw [hw']
  clear hw' w'
  go_wp2_with fail
  refine (containsNone_any _ w 0 none).mono ?_
  rintro e w' ⟨rfl, hw'⟩
  rw [hw']
  clear hw' w'
  go_wp2_with fail
  refine HCL.out.mono ?_
  rintro e w1 ⟨v1, rfl, hs1, f1⟩
  obtain ⟨A1, c1, rfl, _⟩ := hs1.shape
  have HF1 := Lib.hid f1
  have hsz := f1.size
  have HS1 := Lib.hid hs1
  clear hs1 f1
  go_wp2_with fail
  go_loopw [52] (fun v52 wr => v52 = .int .i64 0 ∧ wr = (w1.alloc (.map #[] 0)).alloc (.cells (clCells id A1 c1 l.length 0 0 0 w1.heap.size) 45)) (fun _ _ => 0)
  case atStart => exact ⟨rfl, rfl⟩
  case round =>
    obtain ⟨rfl, hwr⟩ := hrel
    have HCL2 : Hid (Cl wr w.heap.size (w1.heap.size + 1) w1.heap.size id A1 c1 l 0 0 0) := Lib.hid (by
      rw [hwr]
      refine ⟨?_, ⟨0, .map [], (World.ownsMap_made w1 _ _ _).alloc _, Nat.le_refl _⟩, (HS1.out.alloc _).alloc _, by omega, by omega, by omega⟩
      have := Blk.new (w1.alloc (.map #[] 0)) 45 (clCells id A1 c1 l.length 0 0 0 w1.heap.size)
      rwa [World.size_alloc] at this)
    have HF2 : Hid (Fresh w wr) := Lib.hid (by rw [hwr]; exact (HF1.out.alloc _).alloc _)
    clear hwr
    go_wp2_with fail
    go_ret2
    exact ⟨_, _, _, _, rfl, HCL2.out, HF2.out⟩
end Go.Proofs.Ytnmokpbomeamfaa

/- Tick, Over; awake; the laws ClientTurns, ClientTokens walked. -/
import Derived.Test.YtnmokpbomeamfaaCl5
namespace Go.Proofs.Ytnmokpbomeamfaa
open Go.RowKit

theorem ask_any (w : World) (B b mb id : Nat) (A : Option Addr) (nc : Nat) (l : List Int) (a wt gv k : Nat) (h : Cl w B b mb id A nc l a wt gv) (hk : k ≤ 1000) (hl : l.length ≤ 15) :
    Calls Try.prog 18 #[.pointer (some ⟨b, 0, none⟩), .int .i64 (k : Int)] w fun e w' => e = .returned (.tuple #[]) ∧ Cl w' B b mb id A nc l (k % l.length) 0 gv ∧ Frm (fun k => k = b ∨ k = mb) w w' := by
  have hpos := h.pos
  have c1 : w.cell? ⟨b, 1, none⟩ = some (.slice A l.length nc) := h.blk.cell 1
  have c3 : w.cell? ⟨b, 3, none⟩ = some (.int .i64 (a : Int)) := h.blk.cell 3
  have c4 : w.cell? ⟨b, 4, none⟩ = some (.int .i64 (wt : Int)) := h.blk.cell 4
  have z := fun i => h.blk.frozen i
  have hmod := Nat.mod_lt k (show 0 < l.length by omega)
  obtain ⟨m, hm⟩ : ∃ m, k % l.length = m := ⟨_, rfl⟩
  rw [hm] at hmod ⊢
  have hmi : (k : Int) % (l.length : Int) = (m : Int) := by rw [← Int.natCast_emod, hm]
  have hk0 : (0 : Int) ≤ (k : Int) := by omega
  have hl0 : (0 : Int) < (l.length : Int) := by omega
  have hl1 : ((l.length : Int) == 0) = false := by rw [beq_eq_false_iff_ne]; omega
  have hl2 : ¬ ((l.length : Int) = 0) := by omega
  have H1 := h.set (i := 3) (u := .int .i64 (m : Int)) (a' := m) (wt' := wt) (gv' := gv) rfl hmod (Nat.le_refl _)
  have H2 := Lib.hid (H1.set (i := 4) (u := .int .i64 0) (a' := m) (wt' := 0) (gv' := gv) rfl hmod (Nat.le_refl _))
  have HF : Hid (Frm (fun k => k = b ∨ k = mb) w ((w.setCell ⟨b, 3, none⟩ (.int .i64 (m : Int))).setCell ⟨b, 4, none⟩ (.int .i64 0))) := Lib.hid (Frm.setCell (Frm.setCell (Frm.refl (fun k => k = b ∨ k = mb) w) (p := ⟨b, 3, none⟩) (fun _ => .inl rfl) _) (p := ⟨b, 4, none⟩) (fun _ => .inl rfl) _)
  clear h H1 hm
  go_enter Try.func18, Try.ntmps18
  go_wp2_with fail
  go_end0
  exact ⟨rfl, H2.out, HF.out⟩
def tickA (n a wt : Nat) : Nat := if 3 ≤ wt + 1 then (a + 1) % n else a
def tickW (wt : Nat) : Nat := if 3 ≤ wt + 1 then 0 else wt + 1
theorem tick_any (w : World) (B b mb id : Nat) (A : Option Addr) (nc : Nat) (l : List Int) (a wt gv : Nat) (h : Cl w B b mb id A nc l a wt gv) (hw : wt ≤ 10) (hl : l.length ≤ 15) :
    Calls Try.prog 8 #[.pointer (some ⟨b, 0, none⟩)] w fun e w' => e = .returned (.tuple #[]) ∧ Cl w' B b mb id A nc l (tickA l.length a wt) (tickW wt) gv ∧ Frm (fun k => k = b ∨ k = mb) w w' := by
  have hpos := h.pos
  have c3 : w.cell? ⟨b, 3, none⟩ = some (.int .i64 (a : Int)) := h.blk.cell 3
  have c4 : w.cell? ⟨b, 4, none⟩ = some (.int .i64 (wt : Int)) := h.blk.cell 4
  have c10 : w.cell? ⟨b, 10, none⟩ = some (.bool false) := h.blk.cell 10
  have z := fun i => h.blk.frozen i
  have H1 := h.set (i := 4) (u := .int .i64 ((wt : Int) + 1)) (a' := a) (wt' := wt + 1) (gv' := gv) rfl hpos (Nat.le_refl _)
  have HH := Lib.hid H1
  have HF : Hid (Frm (fun k => k = b ∨ k = mb) w (w.setCell ⟨b, 4, none⟩ (.int .i64 ((wt : Int) + 1)))) := Lib.hid (Frm.setCell (Frm.refl (fun k => k = b ∨ k = mb) w) (p := ⟨b, 4, none⟩) (fun _ => .inl rfl) _)
  have hw0 : (0 : Int) ≤ (wt : Int) := by omega
  have hw1 : (wt : Int) ≤ 10 := by omega
  have ha0 : (0 : Int) ≤ (a : Int) := by omega
  have ha1 : (a : Int) ≤ 15 := by omega
  have HA := Lib.hid (ask_any _ B b mb id A nc l a (wt + 1) gv (a + 1) H1 (by omega) hl)
  clear h H1
  by_cases h3 : 3 ≤ wt + 1
  · have HTA := Lib.hid (show tickA l.length a wt = (a + 1) % l.length by unfold tickA; rw [if_pos h3])
    have HTW := Lib.hid (show tickW wt = 0 by unfold tickW; rw [if_pos h3])
    have h3i : (3 : Int) ≤ (wt : Int) + 1 := by omega
    go_enter Try.func8, Try.ntmps8
    go_wp2_with fail
    refine HA.out.mono ?_
    rintro e w' ⟨rfl, hc, hf⟩
    have HC2 := Lib.hid hc
    have HF2 := Lib.hid (HF.out.trans hf)
    clear hc hf
    go_wp2_with fail
    go_end0
    exact ⟨rfl, by rw [HTA.out, HTW.out]; exact HC2.out, HF2.out⟩
  · have HTA := Lib.hid (show tickA l.length a wt = a by unfold tickA; rw [if_neg h3])
    have HTW := Lib.hid (show tickW wt = wt + 1 by unfold tickW; rw [if_neg h3])
    have h3i : ¬ (3 : Int) ≤ (wt : Int) + 1 := by omega
    go_enter Try.func8, Try.ntmps8
    go_wp2_with fail
    go_end0
    exact ⟨rfl, by rw [HTA.out, HTW.out]; exact HH.out, HF.out⟩
theorem over_any (w : World) (B b mb id : Nat) (A : Option Addr) (nc : Nat) (l : List Int) (a wt gv : Nat) (h : Cl w B b mb id A nc l a wt gv) :
    Calls Try.prog 9 #[.pointer (some ⟨b, 0, none⟩)] w fun e w' => e = .returned (.tuple #[.bool false, .int .i64 0]) ∧ Fresh w w' := by
  have c10 : ∀ n, (w.drewN n).cell? ⟨b, 10, none⟩ = some (.bool false) := fun _ => h.blk.cell 10
  have c11 : ∀ n, (w.drewN n).cell? ⟨b, 11, none⟩ = some (.int .i64 0) := fun _ => h.blk.cell 11
  have HF : Hid (∀ n, Fresh w (w.drewN n)) := Lib.hid fun n => (Frm.refl _ w).drewN n
  clear h
  go_enter Try.func9, Try.ntmps9
  go_wp2_with fail
  go_quiet (fail)
  go_wp2_with fail
  go_ret2
  exact ⟨rfl, HF.out _⟩
set_option maxHeartbeats 1000000 in
theorem awake_any (w : World) : Calls Try.prog 5 #[] w fun e w' => e = .returned (.bool true) ∧ Fresh w w' := by
  obtain ⟨W, hW⟩ : ∃ W, W = w.alloc (.cells #[.int .i64 1, .int .i64 2] 3) := ⟨_, rfl⟩
  have R : Rd W W.heap.size (some ⟨w.heap.size, 0, none⟩) ([1, 2].map iv) := by
    rw [hW]
    exact (rd_new w ([1, 2].map iv) 3).more (by simp)
  have HFW : Hid (Fresh w W) := Lib.hid (by rw [hW]; exact (Frm.refl _ w).alloc _)
  have HN := Lib.hid (new_yes W 7 (some ⟨w.heap.size, 0, none⟩) 2 [1, 2] R (by omega) (by omega) (by simp) (by simp) (by decide) (by simp) (by simp [maxLen]))
  clear R
  go_enter Try.func5, Try.ntmps5
  go_wp2_with fail
  rw [← hW]
  refine HN.out.mono ?_
  rintro e w1 ⟨b, mb, A, nc, rfl, hc, f1⟩
  have HF1 := Lib.hid (HFW.out.trans f1)
  have HC := Lib.hid hc
  have HWN := Lib.hid (want_any w1 _ b mb 7 A nc [1, 2] 0 0 0 hc (by omega) (by omega) (by simp))
  clear hW f1 hc
  go_wp2_with fail
  refine HWN.out.mono ?_
  rintro e w2 ⟨v, bs, rfl, hs, hb, _, f2⟩
  have HF2 : Hid (Fresh w w2) := Lib.hid (HF1.out.trans' f2 (fun k hk hh => by
    have h1 := HC.out.bge
    have h2 := HC.out.mge
    have h3 := HFW.out.size
    rcases hh with e | e <;> omega))
  obtain ⟨A2, c2, rfl, _⟩ := hs.shape
  have hbi : (0 : Int) < (bs.length : Int) := by omega
  clear hs f2
  rw [show at_ [1, 2] 0 = 1 from rfl]
  go_wp2_with fail
  go_ret
  exact ⟨rfl, HF2.out⟩
end Go.Proofs.Ytnmokpbomeamfaa

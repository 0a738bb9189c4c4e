/- The law ProgressSound, walked. -/
import Derived.Test.YthglnipcddoblaaPeerLaws
import Derived.Test.YthglnipcddoblaaReads
namespace Go.Proofs.Ythglnipcddoblaa
open Go.RowKit Pg

theorem flatMap_at {α : Type} (f : α → List Value) (size : Nat) (hl : ∀ a, (f a).length = size) : ∀ (xs : List α) (k : Nat) (a : α), xs[k]? = some a → ∀ j, j < size → (xs.flatMap f)[k * size + j]? = (f a)[j]? := by
  intro xs
  induction xs with
  | nil => intro k a h; simp at h
  | cons x r ih =>
    intro k a h j hj
    match k, h with
    | 0, h =>
      have e : x = a := by simpa using h
      subst e
      rw [List.flatMap_cons, Nat.zero_mul, Nat.zero_add, List.getElem?_append_left (by rw [hl]; exact hj)]
    | k + 1, h =>
      rw [List.flatMap_cons, List.getElem?_append_right (by rw [hl, Nat.add_mul]; omega), hl, Nat.add_mul, Nat.one_mul, show k * size + size + j - size = k * size + j by omega]
      exact ih k a (by simpa using h) j hj
/-- one element of a slice of several cells each -/
theorem elem_at {α : Type} {f : α → List Value} {size B : Nat} {w : World} {A : Option Addr} {xs : List α} (hl : ∀ a, (f a).length = size) (h : Rd w B A (xs.flatMap f)) (hs : 0 < size) {k : Nat} (hk : k < xs.length) :
    ∃ b o, A = some ⟨b, o, none⟩ ∧ b < B ∧ ∀ j u, (f xs[k])[j]? = some u → w.cell? ⟨b, o + k * size + j, none⟩ = some u := by
  have hx : xs[k]? = some xs[k] := List.getElem?_eq_getElem hk
  have h0 := flatMap_at f size hl xs k _ hx
  obtain ⟨b, o, hA, hb, hc⟩ := h (fun e => by
    have := h0 0 hs
    rw [e] at this
    have hx := hl xs[k]
    cases hf : f xs[k] with
    | nil => rw [hf] at hx; simp at hx; omega
    | cons u r => rw [hf] at this; simp at this)
  refine ⟨b, o, hA, hb, fun j u hu => ?_⟩
  rw [Nat.add_assoc]
  refine hc _ _ ?_
  rw [h0 j (by have := (List.getElem?_eq_some_iff.1 hu).1; rw [hl] at this; exact this)]
  exact hu

def stepf (a : Int × Int × Int × Bool) : List Value := [.int .i64 a.1, .int .i64 a.2.1, .int .i64 a.2.2.1, .bool a.2.2.2]
def stepq (a : Int × Int × Int × Bool) : Prop := (Lit.int .i64 a.1).wf = true ∧ (Lit.int .i64 a.2.1).wf = true ∧ (Lit.int .i64 a.2.2.1).wf = true ∧ True

set_option maxRecDepth 100000 in
set_option maxHeartbeats 1000000 in
theorem sound_walk (w : World) (a : Int) (_ : (Lit.int .i64 a).wf = true) (m : Int) (_ : (Lit.int .i64 m).wf = true) (s : Option Addr × Nat × List (Int × Int × Int × Bool)) (hs : IsL w 32 stepf stepq s) :
    Calls Try.prog 6 #[.int .i64 a, .int .i64 m, sv s] w fun e w' => e = .returned (.bool true) ∧ Below w.heap.size w w' := by
  obtain ⟨A, cap, l⟩ := s
  by_cases h : NewOk a m
  · have HOK := Lib.hid h
    obtain ⟨ha1, ha2, hm1, hm2⟩ := h
    have HL : Hid (Rd w w.heap.size A (l.flatMap stepf)) := Lib.hid hs.rd
    have hzl : l.length ≤ 9223372036854775807 := by have := hs.le; have := hs.most; unfold maxLen at this; simp at *; omega
    clear hs
    have HN := Lib.hid (peer_new w a m)
    unfold sv
    go_enter Try.func6, Try.ntmps6
    go_wp2_with fail
    refine (new_ok _ _ HOK.out _).mono ?_
    rintro e w1 ⟨rfl, rfl⟩
    go_wp2_with fail
    go_loopw [9] (fun v9 wr => ∃ (k : Nat) (p : Pr), k ≤ l.length ∧ k ≤ 300 ∧ v9 = .int .i64 (k : Int) ∧ Inv p ∧ p.window = m ∧ PeerAt wr w.heap.size w.heap.size p ∧ Below w.heap.size w wr) (fun v9 _ => (300 - intOf v9).toNat)
    case atStart => exact ⟨0, Pg.fresh a m, by omega, by omega, rfl, inv_new ha1 ha2 hm1 hm2, rfl, HN.out, (Below.refl _ w).alloc (Nat.le_refl _) _⟩
    case round =>
      obtain ⟨k, p, hk, hk1, rfl, hi, hwin, hP, hb⟩ := hrel
      have HI := Lib.hid hi
      have HP := Lib.hid hP
      have HB := Lib.hid hb
      have HWN := Lib.hid hwin
      clear hP hb hi hwin
      have hsz : w.heap.size ≤ wr.heap.size := HB.out.size
      by_cases hkl : k < l.length ∧ k < 300
      · obtain ⟨hk2, hk3⟩ := hkl
        obtain ⟨b, o, rfl, hblt, hc⟩ := elem_at (f := stepf) (size := 4) (fun _ => rfl) (HL.out.below HB.out) (by omega) hk2
        generalize l[k] = x at hc
        obtain ⟨x0, x1, x2, x3⟩ := x
        have c0 : wr.cell? ⟨b, o + k * 4, none⟩ = some (.int .i64 x0) := hc 0 _ rfl
        have c1 := hc 1 _ rfl
        have c2 := hc 2 _ rfl
        have c3 := hc 3 _ rfl
        clear hc
        have hk0 : (0 : Int) ≤ k := by omega
        have hk2' : (k : Int) < l.length := by omega
        have F1 : Fresh wr (wr.alloc (.cells #[.int .i64 x0, .int .i64 x1, .int .i64 x2, .bool x3] 38)) := (Frm.refl _ wr).alloc _
        have HP1 := Lib.hid (HP.out.keep F1)
        have HB1 := Lib.hid (HB.out.trans ((Below.refl _ wr).alloc hsz (.cells #[.int .i64 x0, .int .i64 x1, .int .i64 x2, .bool x3] 38)))
        have hsz1 := HB1.out.size
        clear F1
        go_wp2_with fail
        refine (match_any _ _ _ _ HP1.out).mono ?_
        rintro e w3 ⟨rfl, rfl⟩
        by_cases e0 : x0 = 0
        · subst e0
          go_wp2_with fail
          refine (sent_any _ _ _ p _ HI.out hsz1 HP1.out).mono ?_
          rintro e w2 ⟨rfl, h2, b2⟩
          have HQ0 := Lib.hid h2
          have BQ := Lib.hid (HB1.out.trans b2)
          have HIQ0 := Lib.hid (show Inv (sent p x1) from inv_sent HI.out _)
          have HMQ0 := Lib.hid (show p.mat ≤ (sent p x1).mat from by rw [mat_sent]; exact Int.le_refl _)
          have HWQ0 := Lib.hid (show (sent p x1).window = m from (win_sent _ _).trans HWN.out)
          clear h2 b2
          obtain ⟨q, HQ, HIQ, HMQ, HWQ⟩ : ∃ q, Hid (PeerAt w2 w.heap.size w.heap.size q) ∧ Hid (Inv q) ∧ Hid (p.mat ≤ q.mat) ∧ Hid (q.window = m) := ⟨_, HQ0, HIQ0, HMQ0, HWQ0⟩
          clear HQ0 HIQ0 HMQ0 HWQ0
          have hq1 : p.mat ≤ q.mat := HMQ.out
          have hq2 : q.mat < q.next := HIQ.out.mn
          have hq3 : (q.fly.length : Int) ≤ m := by rw [← HWQ.out]; exact HIQ.out.len
          have hq4 : (0 : Int) ≤ (q.fly.length : Int) := by omega
          have d1 : decide (q.mat < p.mat) = false := by simpa using hq1
          have d2 : decide (q.next ≤ q.mat) = false := by simpa using hq2
          have d3 : decide (m < (q.fly.length : Int)) = false := by simpa using hq3
          go_wp2_with fail
          refine (match_any _ _ _ _ HQ.out).mono ?_
          rintro e w4 ⟨rfl, rfl⟩
          go_wp2_with fail
          refine (match_any _ _ _ _ HQ.out).mono ?_
          rintro e w4 ⟨rfl, rfl⟩
          go_wp2_with fail
          refine (next_any _ _ _ _ HQ.out).mono ?_
          rintro e w4 ⟨rfl, rfl⟩
          go_wp2_with fail
          refine (flying_any _ _ _ _ HQ.out).mono ?_
          rintro e w4 ⟨rfl, rfl⟩
          go_wp2_with fail
          refine (flying_any _ _ _ _ HQ.out).mono ?_
          rintro e w4 ⟨rfl, rfl⟩
          go_wp2_with fail
          go_roundw
          case rel => exact ⟨k + 1, _, by omega, by omega, by go_num, HIQ.out, HWQ.out, HQ.out, BQ.out⟩
          case measure => simp [intOf]; omega
        have f0 : (x0 == 0) = false := by simpa using e0
        by_cases e1 : x0 = 1
        · subst e1
          go_wp2_with fail
          refine (acked_any _ _ _ p _ HI.out HP1.out).mono ?_
          rintro e w2 ⟨rfl, h2, b2⟩
          have HQ0 := Lib.hid h2
          have BQ := Lib.hid (HB1.out.trans b2)
          have HIQ0 := Lib.hid (show Inv (acked p x1) from inv_acked HI.out _)
          have HMQ0 := Lib.hid (show p.mat ≤ (acked p x1).mat from mat_acked _ _)
          have HWQ0 := Lib.hid (show (acked p x1).window = m from (win_acked _ _).trans HWN.out)
          clear h2 b2
          obtain ⟨q, HQ, HIQ, HMQ, HWQ⟩ : ∃ q, Hid (PeerAt w2 w.heap.size w.heap.size q) ∧ Hid (Inv q) ∧ Hid (p.mat ≤ q.mat) ∧ Hid (q.window = m) := ⟨_, HQ0, HIQ0, HMQ0, HWQ0⟩
          clear HQ0 HIQ0 HMQ0 HWQ0
          have hq1 : p.mat ≤ q.mat := HMQ.out
          have hq2 : q.mat < q.next := HIQ.out.mn
          have hq3 : (q.fly.length : Int) ≤ m := by rw [← HWQ.out]; exact HIQ.out.len
          have hq4 : (0 : Int) ≤ (q.fly.length : Int) := by omega
          have d1 : decide (q.mat < p.mat) = false := by simpa using hq1
          have d2 : decide (q.next ≤ q.mat) = false := by simpa using hq2
          have d3 : decide (m < (q.fly.length : Int)) = false := by simpa using hq3
          go_wp2_with fail
          refine (match_any _ _ _ _ HQ.out).mono ?_
          rintro e w4 ⟨rfl, rfl⟩
          go_wp2_with fail
          refine (match_any _ _ _ _ HQ.out).mono ?_
          rintro e w4 ⟨rfl, rfl⟩
          go_wp2_with fail
          refine (next_any _ _ _ _ HQ.out).mono ?_
          rintro e w4 ⟨rfl, rfl⟩
          go_wp2_with fail
          refine (flying_any _ _ _ _ HQ.out).mono ?_
          rintro e w4 ⟨rfl, rfl⟩
          go_wp2_with fail
          refine (flying_any _ _ _ _ HQ.out).mono ?_
          rintro e w4 ⟨rfl, rfl⟩
          go_wp2_with fail
          go_roundw
          case rel => exact ⟨k + 1, _, by omega, by omega, by go_num, HIQ.out, HWQ.out, HQ.out, BQ.out⟩
          case measure => simp [intOf]; omega
        have f1 : (x0 == 1) = false := by simpa using e1
        by_cases e2 : x0 = 2
        · subst e2
          go_wp2_with fail
          refine (refused_any _ _ _ p _ _ HI.out HP1.out).mono ?_
          rintro e w2 ⟨rfl, h2, b2⟩
          have HQ0 := Lib.hid h2
          have BQ := Lib.hid (HB1.out.trans b2)
          have HIQ0 := Lib.hid (show Inv (refused p x1 x2) from inv_refused HI.out _ _)
          have HMQ0 := Lib.hid (show p.mat ≤ (refused p x1 x2).mat from by rw [mat_refused]; exact Int.le_refl _)
          have HWQ0 := Lib.hid (show (refused p x1 x2).window = m from (win_refused _ _ _).trans HWN.out)
          clear h2 b2
          obtain ⟨q, HQ, HIQ, HMQ, HWQ⟩ : ∃ q, Hid (PeerAt w2 w.heap.size w.heap.size q) ∧ Hid (Inv q) ∧ Hid (p.mat ≤ q.mat) ∧ Hid (q.window = m) := ⟨_, HQ0, HIQ0, HMQ0, HWQ0⟩
          clear HQ0 HIQ0 HMQ0 HWQ0
          have hq1 : p.mat ≤ q.mat := HMQ.out
          have hq2 : q.mat < q.next := HIQ.out.mn
          have hq3 : (q.fly.length : Int) ≤ m := by rw [← HWQ.out]; exact HIQ.out.len
          have hq4 : (0 : Int) ≤ (q.fly.length : Int) := by omega
          have d1 : decide (q.mat < p.mat) = false := by simpa using hq1
          have d2 : decide (q.next ≤ q.mat) = false := by simpa using hq2
          have d3 : decide (m < (q.fly.length : Int)) = false := by simpa using hq3
          go_wp2_with fail
          refine (match_any _ _ _ _ HQ.out).mono ?_
          rintro e w4 ⟨rfl, rfl⟩
          go_wp2_with fail
          refine (match_any _ _ _ _ HQ.out).mono ?_
          rintro e w4 ⟨rfl, rfl⟩
          go_wp2_with fail
          refine (next_any _ _ _ _ HQ.out).mono ?_
          rintro e w4 ⟨rfl, rfl⟩
          go_wp2_with fail
          refine (flying_any _ _ _ _ HQ.out).mono ?_
          rintro e w4 ⟨rfl, rfl⟩
          go_wp2_with fail
          refine (flying_any _ _ _ _ HQ.out).mono ?_
          rintro e w4 ⟨rfl, rfl⟩
          go_wp2_with fail
          go_roundw
          case rel => exact ⟨k + 1, _, by omega, by omega, by go_num, HIQ.out, HWQ.out, HQ.out, BQ.out⟩
          case measure => simp [intOf]; omega
        have f2 : (x0 == 2) = false := by simpa using e2
        by_cases e3 : x0 = 3
        · subst e3
          go_wp2_with fail
          refine (beat_any _ _ _ p HI.out HP1.out).mono ?_
          rintro e w2 ⟨rfl, h2, b2⟩
          have HQ0 := Lib.hid h2
          have BQ := Lib.hid (HB1.out.trans b2)
          have HIQ0 := Lib.hid (show Inv (beat p) from inv_beat HI.out)
          have HMQ0 := Lib.hid (show p.mat ≤ (beat p).mat from by rw [mat_beat]; exact Int.le_refl _)
          have HWQ0 := Lib.hid (show (beat p).window = m from (win_beat _).trans HWN.out)
          clear h2 b2
          obtain ⟨q, HQ, HIQ, HMQ, HWQ⟩ : ∃ q, Hid (PeerAt w2 w.heap.size w.heap.size q) ∧ Hid (Inv q) ∧ Hid (p.mat ≤ q.mat) ∧ Hid (q.window = m) := ⟨_, HQ0, HIQ0, HMQ0, HWQ0⟩
          clear HQ0 HIQ0 HMQ0 HWQ0
          have hq1 : p.mat ≤ q.mat := HMQ.out
          have hq2 : q.mat < q.next := HIQ.out.mn
          have hq3 : (q.fly.length : Int) ≤ m := by rw [← HWQ.out]; exact HIQ.out.len
          have hq4 : (0 : Int) ≤ (q.fly.length : Int) := by omega
          have d1 : decide (q.mat < p.mat) = false := by simpa using hq1
          have d2 : decide (q.next ≤ q.mat) = false := by simpa using hq2
          have d3 : decide (m < (q.fly.length : Int)) = false := by simpa using hq3
          go_wp2_with fail
          refine (match_any _ _ _ _ HQ.out).mono ?_
          rintro e w4 ⟨rfl, rfl⟩
          go_wp2_with fail
          refine (match_any _ _ _ _ HQ.out).mono ?_
          rintro e w4 ⟨rfl, rfl⟩
          go_wp2_with fail
          refine (next_any _ _ _ _ HQ.out).mono ?_
          rintro e w4 ⟨rfl, rfl⟩
          go_wp2_with fail
          refine (flying_any _ _ _ _ HQ.out).mono ?_
          rintro e w4 ⟨rfl, rfl⟩
          go_wp2_with fail
          refine (flying_any _ _ _ _ HQ.out).mono ?_
          rintro e w4 ⟨rfl, rfl⟩
          go_wp2_with fail
          go_roundw
          case rel => exact ⟨k + 1, _, by omega, by omega, by go_num, HIQ.out, HWQ.out, HQ.out, BQ.out⟩
          case measure => simp [intOf]; omega
        have f3 : (x0 == 3) = false := by simpa using e3
        by_cases e4 : x0 = 4
        · subst e4
          go_wp2_with fail
          refine (install_any _ _ _ p _ HP1.out).mono ?_
          rintro e w2 ⟨rfl, h2, b2⟩
          have HQ0 := Lib.hid h2
          have BQ := Lib.hid (HB1.out.trans b2)
          have HIQ0 := Lib.hid (show Inv (install p x1) from inv_install HI.out _)
          have HMQ0 := Lib.hid (show p.mat ≤ (install p x1).mat from by rw [mat_install]; exact Int.le_refl _)
          have HWQ0 := Lib.hid (show (install p x1).window = m from (win_install _ _).trans HWN.out)
          clear h2 b2
          obtain ⟨q, HQ, HIQ, HMQ, HWQ⟩ : ∃ q, Hid (PeerAt w2 w.heap.size w.heap.size q) ∧ Hid (Inv q) ∧ Hid (p.mat ≤ q.mat) ∧ Hid (q.window = m) := ⟨_, HQ0, HIQ0, HMQ0, HWQ0⟩
          clear HQ0 HIQ0 HMQ0 HWQ0
          have hq1 : p.mat ≤ q.mat := HMQ.out
          have hq2 : q.mat < q.next := HIQ.out.mn
          have hq3 : (q.fly.length : Int) ≤ m := by rw [← HWQ.out]; exact HIQ.out.len
          have hq4 : (0 : Int) ≤ (q.fly.length : Int) := by omega
          have d1 : decide (q.mat < p.mat) = false := by simpa using hq1
          have d2 : decide (q.next ≤ q.mat) = false := by simpa using hq2
          have d3 : decide (m < (q.fly.length : Int)) = false := by simpa using hq3
          go_wp2_with fail
          refine (match_any _ _ _ _ HQ.out).mono ?_
          rintro e w4 ⟨rfl, rfl⟩
          go_wp2_with fail
          refine (match_any _ _ _ _ HQ.out).mono ?_
          rintro e w4 ⟨rfl, rfl⟩
          go_wp2_with fail
          refine (next_any _ _ _ _ HQ.out).mono ?_
          rintro e w4 ⟨rfl, rfl⟩
          go_wp2_with fail
          refine (flying_any _ _ _ _ HQ.out).mono ?_
          rintro e w4 ⟨rfl, rfl⟩
          go_wp2_with fail
          refine (flying_any _ _ _ _ HQ.out).mono ?_
          rintro e w4 ⟨rfl, rfl⟩
          go_wp2_with fail
          go_roundw
          case rel => exact ⟨k + 1, _, by omega, by omega, by go_num, HIQ.out, HWQ.out, HQ.out, BQ.out⟩
          case measure => simp [intOf]; omega
        have f4 : (x0 == 4) = false := by simpa using e4
        by_cases e5 : x0 = 5
        · subst e5
          go_wp2_with fail
          refine (over_any _ _ _ p _ HI.out HP1.out).mono ?_
          rintro e w2 ⟨rfl, h2, b2⟩
          have HQ0 := Lib.hid h2
          have BQ := Lib.hid (HB1.out.trans b2)
          have HIQ0 := Lib.hid (show Inv (over p x3) from inv_over HI.out _)
          have HMQ0 := Lib.hid (show p.mat ≤ (over p x3).mat from by rw [mat_over]; exact Int.le_refl _)
          have HWQ0 := Lib.hid (show (over p x3).window = m from (win_over _ _).trans HWN.out)
          clear h2 b2
          obtain ⟨q, HQ, HIQ, HMQ, HWQ⟩ : ∃ q, Hid (PeerAt w2 w.heap.size w.heap.size q) ∧ Hid (Inv q) ∧ Hid (p.mat ≤ q.mat) ∧ Hid (q.window = m) := ⟨_, HQ0, HIQ0, HMQ0, HWQ0⟩
          clear HQ0 HIQ0 HMQ0 HWQ0
          have hq1 : p.mat ≤ q.mat := HMQ.out
          have hq2 : q.mat < q.next := HIQ.out.mn
          have hq3 : (q.fly.length : Int) ≤ m := by rw [← HWQ.out]; exact HIQ.out.len
          have hq4 : (0 : Int) ≤ (q.fly.length : Int) := by omega
          have d1 : decide (q.mat < p.mat) = false := by simpa using hq1
          have d2 : decide (q.next ≤ q.mat) = false := by simpa using hq2
          have d3 : decide (m < (q.fly.length : Int)) = false := by simpa using hq3
          go_wp2_with fail
          refine (match_any _ _ _ _ HQ.out).mono ?_
          rintro e w4 ⟨rfl, rfl⟩
          go_wp2_with fail
          refine (match_any _ _ _ _ HQ.out).mono ?_
          rintro e w4 ⟨rfl, rfl⟩
          go_wp2_with fail
          refine (next_any _ _ _ _ HQ.out).mono ?_
          rintro e w4 ⟨rfl, rfl⟩
          go_wp2_with fail
          refine (flying_any _ _ _ _ HQ.out).mono ?_
          rintro e w4 ⟨rfl, rfl⟩
          go_wp2_with fail
          refine (flying_any _ _ _ _ HQ.out).mono ?_
          rintro e w4 ⟨rfl, rfl⟩
          go_wp2_with fail
          go_roundw
          case rel => exact ⟨k + 1, _, by omega, by omega, by go_num, HIQ.out, HWQ.out, HQ.out, BQ.out⟩
          case measure => simp [intOf]; omega
        have f5 : (x0 == 5) = false := by simpa using e5
        obtain ⟨q, HQ, HIQ, HMQ, HWQ⟩ : ∃ q, Hid (PeerAt (wr.alloc (.cells #[.int .i64 x0, .int .i64 x1, .int .i64 x2, .bool x3] 38)) w.heap.size w.heap.size q) ∧ Hid (Inv q) ∧ Hid (p.mat ≤ q.mat) ∧ Hid (q.window = m) := ⟨p, HP1, HI, Lib.hid (Int.le_refl _), HWN⟩
        have BQ := HB1
        have hq1 : p.mat ≤ q.mat := HMQ.out
        have hq2 : q.mat < q.next := HIQ.out.mn
        have hq3 : (q.fly.length : Int) ≤ m := by rw [← HWQ.out]; exact HIQ.out.len
        have hq4 : (0 : Int) ≤ (q.fly.length : Int) := by omega
        have d1 : decide (q.mat < p.mat) = false := by simpa using hq1
        have d2 : decide (q.next ≤ q.mat) = false := by simpa using hq2
        have d3 : decide (m < (q.fly.length : Int)) = false := by simpa using hq3
        go_wp2_with fail
        refine (match_any _ _ _ _ HQ.out).mono ?_
        rintro e w4 ⟨rfl, rfl⟩
        go_wp2_with fail
        refine (match_any _ _ _ _ HQ.out).mono ?_
        rintro e w4 ⟨rfl, rfl⟩
        go_wp2_with fail
        refine (next_any _ _ _ _ HQ.out).mono ?_
        rintro e w4 ⟨rfl, rfl⟩
        go_wp2_with fail
        refine (flying_any _ _ _ _ HQ.out).mono ?_
        rintro e w4 ⟨rfl, rfl⟩
        go_wp2_with fail
        refine (flying_any _ _ _ _ HQ.out).mono ?_
        rintro e w4 ⟨rfl, rfl⟩
        go_wp2_with fail
        go_roundw
        case rel => exact ⟨k + 1, _, by omega, by omega, by go_num, HIQ.out, HWQ.out, HQ.out, BQ.out⟩
        case measure => simp [intOf]; omega
      · have hn1 : 1 ≤ p.next := by have := HI.out.m0; have := HI.out.mn; omega
        go_wp2_with fail
        all_goals
          refine (next_any _ _ _ _ HP.out).mono ?_
          rintro e w4 ⟨rfl, rfl⟩
          go_wp2_with fail
          go_ret
          exact ⟨by simp, HB.out⟩
  · have HNO := Lib.hid h
    clear h
    unfold sv
    go_enter Try.func6, Try.ntmps6
    go_wp2_with fail
    refine (no_new HNO.out _).mono ?_
    rintro e w1 ⟨rfl, rfl⟩
    go_wp2_with fail
    go_ret
    exact ⟨by simp, Below.refl _ _⟩
end Go.Proofs.Ythglnipcddoblaa

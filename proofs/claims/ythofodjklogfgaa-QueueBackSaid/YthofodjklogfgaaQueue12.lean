/- awake; two lists side by side; the law QueueOrder walked. -/
import Derived.Test.YthofodjklogfgaaQueue11
import Derived.Test.YthofodjklogfgaaQueueMath2
namespace Go.Proofs.Ythofodjklogfgaa
open Go.RowKit QueueM
attribute [local go_sem] run_store_float

theorem IsQ.frm {w w' : World} {B b : Nat} {v : Value} {l : List Wt} {S : Nat → Prop} (h : IsQ w B b v l) (F : Frm S w w') (hb : ¬ S b) (hv : ∀ k, v.ownBlock = some k → ¬ S k) : IsQ w' B b v l := ⟨h.blk.frm F hb, h.ge, h.sl.frm F hv⟩
theorem IsQ.apart {w : World} {B b : Nat} {v : Value} {l : List Wt} {b' : Nat} {v' : Value} {l' : List Wt} {B' : Nat} (h : IsQ w B b v l) (h' : IsQ w B' b' v' l') : v.ownBlock ≠ some b' := h.sl.apart h'.blk (by decide)
theorem IsQ.less {w : World} {B B' b : Nat} {v : Value} {l : List Wt} (h : IsQ w B b v l) (hB : B' ≤ B) : IsQ w B' b v l := ⟨h.blk, Nat.le_trans hB h.ge, h.sl.less hB⟩
/-- two lists of the program, apart -/
structure Two (w : World) (b b' : Nat) (v v' : Value) (L K : List Wt) (wr : World) : Prop where
  one : IsQ wr w.heap.size b v L
  two : IsQ wr w.heap.size b' v' K
  ne : b ≠ b'
  dis : ∀ k, v.ownBlock = some k → v'.ownBlock ≠ some k
  frm : Fresh w wr
theorem Two.symm {w wr : World} {b b' : Nat} {v v' : Value} {L K : List Wt} (h : Two w b b' v v' L K wr) : Two w b' b v' v K L wr := ⟨h.two, h.one, fun e => h.ne e.symm, fun k h1 h2 => h.dis k h2 h1, h.frm⟩
theorem Two.fresh {w wr w2 : World} {b b' : Nat} {v v' : Value} {L K : List Wt} (h : Two w b b' v v' L K wr) (F : Fresh wr w2) : Two w b b' v v' L K w2 := ⟨h.one.fresh F, h.two.fresh F, h.ne, h.dis, h.frm.trans F⟩
theorem Two.step {w wr w2 : World} {b b' : Nat} {v v' : Value} {L L' K : List Wt} (h : Two w b b' v v' L K wr) (s : StepQ wr w.heap.size b v L' w2) : ∃ v2, Two w b b' v2 v' L' K w2 ∧ Frm (fun k => k = b ∨ v.ownBlock = some k) wr w2 := by
  obtain ⟨v2, hq, hf, ho⟩ := s
  refine ⟨v2, ⟨hq, ?_, h.ne, ?_, ?_⟩, hf⟩
  · refine h.two.frm hf (fun hh => hh.elim (fun e => h.ne e.symm) (fun e => h.one.apart h.two e)) (fun k hk hh => hh.elim (fun e => ?_) (fun e => h.dis k e hk))
    subst e
    exact h.two.apart h.one hk
  · intro k h1 h2
    rcases ho with e | ⟨m, h3, h4⟩
    · exact h.dis k (by rw [← e]; exact h1) h2
    · rw [h1] at h3
      injection h3 with h3
      have := (h.two.sl.lt k h2).2
      omega
  · refine h.frm.trans' hf (fun k hk hh => hh.elim (fun e => ?_) (fun e => ?_))
    · have := h.one.ge; omega
    · have := (h.one.sl.lt k e).1; omega
set_option maxHeartbeats 1000000 in
theorem awake_any (w : World) : Calls Try.prog 9 #[] w fun e w' => e = .returned (.bool true) ∧ Fresh w w' := by
  have HADD : Hid (add ⟨1, 0, 1, 0, 0⟩ [] = (0, [⟨1, 0, 1, 0, 0⟩])) := Lib.hid (by rfl)
  go_enter Try.func9, Try.ntmps9
  go_wp2_with fail
  refine (new_any w).mono ?_
  rintro e w1 ⟨rfl, hq, f1⟩
  have HF1 := Lib.hid f1
  have HA := Lib.hid (add_any w1 w.heap.size w.heap.size _ [] ⟨1, 0, 1, 0, 0⟩ hq QueueM.Good.nil)
  unfold wagg at HA
  have hge := hq.ge
  have HQ := Lib.hid hq
  clear f1 hq
  go_wp2_with fail
  refine HA.out.mono ?_
  rintro e w2 ⟨rfl, v2, q2, f2, _⟩
  have h1 : (add ⟨1, 0, 1, 0, 0⟩ []).1 = 0 := by rw [HADD.out]
  have h2 : (add ⟨1, 0, 1, 0, 0⟩ []).2 = [⟨1, 0, 1, 0, 0⟩] := by rw [HADD.out]
  rw [h2] at q2
  rw [h1]
  have HF2 : Hid (Fresh w w2) := Lib.hid (HF1.out.trans' f2 (fun k hk hh => by
    rcases hh with e | e
    · omega
    · simp [Value.ownBlock] at e))
  have HALL := Lib.hid (all_any w2 _ _ _ _ q2 (by simp))
  clear q2 f2 h1 h2
  go_wp2_with fail
  refine HALL.out.mono ?_
  rintro e w3 ⟨v3, rfl, hs3, f3⟩
  have HF3 := Lib.hid (HF2.out.trans f3)
  obtain ⟨A3, c3, rfl, _⟩ := hs3.shape
  clear f3 hs3
  go_wp2_with fail
  go_ret
  exact ⟨rfl, HF3.out⟩
end Go.Proofs.Ythofodjklogfgaa

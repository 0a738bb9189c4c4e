/- A step at both lists: do. -/
import Derived.Test.YthofodjklogfgaaQueue20
import Derived.Test.YthofodjklogfgaaSteps
namespace Go.Proofs.Ythofodjklogfgaa
open Go.RowKit QueueM
attribute [local go_sem] run_store_float

theorem Sl.own_blk {w : World} {B e size n k : Nat} {v : Value} {xs : List Value} (h : Sl w B e size v n xs) (hk : v.ownBlock = some k) : ∃ cur, Blk w k e cur := by
  rcases h.2 with ⟨rfl, _⟩ | ⟨g, o, cap, cur, rfl, hb, hh, _⟩
  · simp [Value.ownBlock] at hk
  · have : g = k := by simpa [Value.ownBlock] using hk
    subst this
    exact ⟨cur, hh⟩
/-- both lists, side by side -/
structure Both (w0 : World) (b c : Nat) (v u : Value) (l m : List Wt) (w : World) : Prop where
  q : IsQ w w0.heap.size b v l
  r : IsR w w0.heap.size c u m
  frm : Fresh w0 w
theorem Both.fresh {w0 w w' : World} {b c : Nat} {v u : Value} {l m : List Wt} (h : Both w0 b c v u l m w) (F : Fresh w w') : Both w0 b c v u l m w' := ⟨h.q.fresh F, h.r.fresh F, h.frm.trans F⟩
theorem Both.stepQ {w0 w w' : World} {b c : Nat} {v u : Value} {l m l' : List Wt} (h : Both w0 b c v u l m w) (s : StepQ w w0.heap.size b v l' w') :
    ∃ v', Both w0 b c v' u l' m w' ∧ Frm (fun k => k = b ∨ v.ownBlock = some k) w w' := by
  obtain ⟨v', hq, hf, _⟩ := s
  refine ⟨v', ⟨hq, ⟨h.r.blk.frm hf ?_, h.r.ge, h.r.sl.frm hf ?_⟩, h.frm.trans' hf ?_⟩, hf⟩
  · rintro (e | e)
    · exact h.r.blk.apart h.q.blk (by decide) e
    · exact h.q.sl.apart h.r.blk (by decide) e
  · rintro k hk (e | e)
    · subst e
      exact h.r.sl.apart h.q.blk (by decide) hk
    · obtain ⟨cur, hc⟩ := h.r.sl.own_blk hk
      exact h.q.sl.apart hc (by decide) e
  · rintro k hk (e | e)
    · have := h.q.ge; omega
    · have := (h.q.sl.lt k e).1; omega
theorem Both.stepR {w0 w w' : World} {b c : Nat} {v u : Value} {l m m' : List Wt} (h : Both w0 b c v u l m w) (s : StepR w w0.heap.size c m' w') :
    ∃ u', Both w0 b c v u' l m' w' ∧ Frm (fun k => k = c) w w' := by
  obtain ⟨u', hr, hf⟩ := s
  refine ⟨u', ⟨⟨h.q.blk.frm hf ?_, h.q.ge, h.q.sl.frm hf ?_⟩, hr, h.frm.trans' hf ?_⟩, hf⟩
  · exact h.q.blk.apart h.r.blk (by decide)
  · rintro k hk e
    subst e
    exact h.q.sl.apart h.r.blk (by decide) hk
  · intro k hk e
    have := h.r.ge; omega
theorem Words.add {l : List Wt} (h : Words l) {x : Wt} (hx : x.score < 18446744073709551616) : Words (add x l).2 := by
  unfold QueueM.add
  split
  · split
    · exact h
    · split
      · exact h
      · intro y hy
        rcases mem_ins.1 hy with rfl | hy
        · exact hx
        · exact h y hy
  · exact h
theorem Words.remove {l : List Wt} (h : Words l) (id : Int) : Words (remove id l).2 := by
  unfold QueueM.remove
  split
  · exact fun y hy => h y ((del_sub id l).subset hy)
  · exact h
theorem first_mem {left : List Int} {l : List Wt} {x : Wt} (h : first left l = some x) : x ∈ l := List.mem_of_find?_eq_some h
def DoPost (w0 : World) (b c : Nat) (w : World) (e : Ending) (w' : World) : Prop :=
  e = .returned (.bool true) ∧ ∃ v u l, Both w0 b c v u l l w' ∧ QueueM.Good l ∧ Words l
set_option maxRecDepth 100000 in
set_option maxHeartbeats 8000000 in
theorem do_any (w0 w : World) (b c : Nat) (v u : Value) (l : List Wt) (s : Stp) (h : Both w0 b c v u l l w) (hg : QueueM.Good l) (hw : Words l) (hs : StpOk w s) :
    Calls Try.prog 16 #[.pointer (some ⟨b, 0, none⟩), .pointer (some ⟨c, 0, none⟩), .agg (scells s).toArray] w fun e w' => DoPost w0 b c w e w' := by
  have hfew := hg.few
  have HG := Lib.hid hg
  have HWD := Lib.hid hw
  have HS := Lib.hid hs
  obtain ⟨so, ⟨xi, xc, xm, xt, xs⟩, ⟨lA, lc, lz⟩⟩ := s
  have hlz : lz.length ≤ 9223372036854775807 := by
    have h1 := hs.le
    have h2 := hs.most
    unfold maxLen at h2
    dsimp only at h1 h2
    omega
  have HRZ := Lib.hid hs.rd
  dsimp only at HRZ
  obtain ⟨W, hW⟩ : ∃ W, W = w.alloc (.cells #[.int .i64 so, .int .i64 xi, .int .i64 xc, .int .i64 xm, .int .i64 xt, .float .f64 xs, .slice lA lz.length lc] 39) := ⟨_, rfl⟩
  have FW : Fresh w W := by rw [hW]; exact (Frm.refl _ w).alloc _
  have BOX : Blk W w.heap.size 39 (scells ⟨so, ⟨xi, xc, xm, xt, xs⟩, ⟨lA, lc, lz⟩⟩).toArray := by rw [hW]; exact Blk.new w _ _
  have HB := Lib.hid (h.fresh FW)
  have SEV : Hid (∀ w', Frm (fun k => k = b ∨ v.ownBlock = some k) W w' → Seven w' w.heap.size 0 ⟨so, ⟨xi, xc, xm, xt, xs⟩, ⟨lA, lc, lz⟩⟩) := Lib.hid fun w' F => seven_blk (BOX.frm F (fun hh => hh.elim (fun e => by
      have := h.q.blk.lt
      omega) (fun e => by
      have := (h.q.sl.lt _ e).2
      omega)))
  obtain ⟨c0, c1, c2, c3, c4, c5, c6⟩ := SEV.out W (Frm.refl _ _)
  dsimp only [sv] at c0 c1 c2 c3 c4 c5 c6
  have HFW := Lib.hid FW
  clear BOX FW h hg hw hs
  simp only [scells, sv]
  by_cases hop : so = 0
  · subst hop
    have HA1 := Lib.hid (add_any W w0.heap.size b v l ⟨xi, xc, xm, xt, xs⟩ HB.out.q HG.out)
    unfold wagg at HA1
    go_enter Try.func16, Try.ntmps16
    go_wp2_with fail
    rw [← hW]
    go_wp2_with fail
    refine HA1.out.mono ?_
    rintro e w5 ⟨rfl, s1⟩
    obtain ⟨v2, b2, F2⟩ := HB.out.stepQ s1
    obtain ⟨d0, d1, d2, d3, d4, d5, d6⟩ := SEV.out w5 F2
    dsimp only [sv] at d0 d1 d2 d3 d4 d5 d6
    have HB2 := Lib.hid b2
    have HA2 := Lib.hid (refAdd_any w5 w0.heap.size c u l ⟨xi, xc, xm, xt, xs⟩ b2.r HG.out)
    unfold wagg at HA2
    obtain ⟨cc, hcc⟩ : ∃ cc, cc = (add ⟨xi, xc, xm, xt, xs⟩ l).1 := ⟨_, rfl⟩
    rw [← hcc]
    clear s1 b2 F2 hW
    go_wp2_with fail
    refine HA2.out.mono ?_
    rintro e w6 ⟨rfl, s2⟩
    obtain ⟨u2, b3, _⟩ := HB2.out.stepR s2
    have HB3 := Lib.hid b3
    rw [← hcc]
    clear s2 b3 hcc
    go_wp2_with fail
    go_ret
    exact ⟨by simp, v2, u2, _, HB3.out, HG.out.add _, HWD.out.add (x := ⟨xi, xc, xm, xt, xs⟩) HS.out.word⟩
  · by_cases hop1 : so = 1
    · subst hop1
      have HA1 := Lib.hid (remove_any W w0.heap.size b v l xi HB.out.q (by omega))
      go_enter Try.func16, Try.ntmps16
      go_wp2_with fail
      rw [← hW]
      go_wp2_with fail
      refine HA1.out.mono ?_
      rintro e w5 ⟨rfl, s1⟩
      obtain ⟨v2, b2, F2⟩ := HB.out.stepQ s1
      obtain ⟨d0, d1, d2, d3, d4, d5, d6⟩ := SEV.out w5 F2
      dsimp only [sv] at d0 d1 d2 d3 d4 d5 d6
      have HB2 := Lib.hid b2
      have HA2 := Lib.hid (refRemove_any w5 w0.heap.size c u l xi b2.r (by omega))
      obtain ⟨cc, hcc⟩ : ∃ cc, cc = (remove xi l).1 := ⟨_, rfl⟩
      rw [← hcc]
      clear s1 b2 F2 hW
      go_wp2_with fail
      refine HA2.out.mono ?_
      rintro e w6 ⟨rfl, s2⟩
      obtain ⟨u2, b3, _⟩ := HB2.out.stepR s2
      have HB3 := Lib.hid b3
      rw [← hcc]
      clear s2 b3 hcc
      go_wp2_with fail
      go_ret
      exact ⟨by simp, v2, u2, _, HB3.out, HG.out.remove _, HWD.out.remove _⟩
    · have hop0 : (so == 0) = false := by rw [beq_eq_false_iff_ne]; exact hop
      have hop1b : (so == 1) = false := by rw [beq_eq_false_iff_ne]; exact hop1
      have HRW := Lib.hid ((HRZ.out.fresh (Nat.le_refl _) HFW.out).more HFW.out.size)
      have HA1 := Lib.hid (first_any W w0.heap.size b v l lA lc lz HB.out.q (by omega) HG.out.right HRW.out hlz)
      have HFM : Hid (∀ x, first lz l = some x → x.score < 18446744073709551616) := Lib.hid fun x hx => HWD.out x (first_mem hx)
      have HRA : Hid (∀ w', Fresh W w' → Calls Try.prog 32 #[.pointer (some ⟨c, 0, none⟩), .slice lA lz.length lc] w' fun e w'' => FirstPost w' (first lz l) e w'') := Lib.hid fun w' F => refFirst_any w' w0.heap.size c u l lA lc lz (HB.out.r.fresh F) (by omega) HG.out.right ((HRW.out.fresh (Nat.le_refl _) F).more F.size) hlz
      have SEVF : Hid (∀ w', Fresh W w' → Seven w' w.heap.size 0 ⟨so, ⟨xi, xc, xm, xt, xs⟩, ⟨lA, lc, lz⟩⟩) := Lib.hid fun w' F => SEV.out w' F.frm
      generalize first lz l = o at HA1 HFM HRA
      obtain ⟨⟨yi, yc, ym, yt, ys⟩, isb, hfo, hyw⟩ : ∃ (y : Wt) (isb : Bool), fval o = .tuple #[.agg #[.int .i64 y.id, .int .i64 y.cls, .int .i64 y.many, .int .i64 y.time, .float .f64 y.score], .bool isb] ∧ y.score < 18446744073709551616 := by
        cases o with
        | none => exact ⟨⟨0, 0, 0, 0, 0⟩, false, rfl, by simp⟩
        | some y => exact ⟨y, true, rfl, HFM.out y rfl⟩
      unfold FirstPost at HA1 HRA
      rw [hfo] at HA1
      have HRA2 : Hid (∀ w', Fresh W w' → Calls Try.prog 32 #[.pointer (some ⟨c, 0, none⟩), .slice lA lz.length lc] w' fun e w'' => e = .returned (.tuple #[.agg #[.int .i64 yi, .int .i64 yc, .int .i64 ym, .int .i64 yt, .float .f64 ys], .bool isb]) ∧ Fresh w' w'') := Lib.hid fun w' F => by
        have := HRA.out w' F
        rwa [hfo] at this
      clear HFM HRA
      have HSW : Hid (∀ w, Calls Try.prog 18 #[.agg #[.int .i64 yi, .int .i64 yc, .int .i64 ym, .int .i64 yt, .float .f64 ys], .agg #[.int .i64 yi, .int .i64 yc, .int .i64 ym, .int .i64 yt, .float .f64 ys]] w fun e w' => e = .returned (.bool true) ∧ Fresh w w') := Lib.hid fun w => sameWait_any ⟨yi, yc, ym, yt, ys⟩ hyw w
      clear hfo hyw
      dsimp only at HA1
      go_enter Try.func16, Try.ntmps16
      go_wp2_with fail
      rw [← hW]
      go_wp2_with fail
      refine HA1.out.mono ?_
      rintro e w5 ⟨rfl, f5⟩
      have HF5 := Lib.hid f5
      obtain ⟨w6, hw6⟩ : ∃ w6, w6 = w5.alloc (.cells #[.int .i64 yi, .int .i64 yc, .int .i64 ym, .int .i64 yt, .float .f64 ys] 28) := ⟨_, rfl⟩
      have HF6 : Hid (Fresh w5 w6) := Lib.hid (by rw [hw6]; exact (Frm.refl _ w5).alloc _)
      have BY : Hid (∀ w', Fresh w6 w' → Five w' w5.heap.size 0 ⟨yi, yc, ym, yt, ys⟩) := Lib.hid fun w' F => by
        have B1 : Blk w6 w5.heap.size 28 (wcells ⟨yi, yc, ym, yt, ys⟩).toArray := by rw [hw6]; exact Blk.new w5 _ _
        exact five_blk (B1.frm F (fun f => f))
      have d6 : (w5.alloc (.cells #[.int .i64 yi, .int .i64 yc, .int .i64 ym, .int .i64 yt, .float .f64 ys] 28)).cell? ⟨w.heap.size, 6, none⟩ = some (.slice lA lz.length lc) := by
        rw [← hw6]; exact (SEVF.out w6 (HF5.out.trans HF6.out)).2.2.2.2.2.2
      clear f5 c0 c1 c2 c3 c4 c5 c6 hW
      go_wp2_with fail
      rw [← hw6]
      refine (HRA2.out w6 (HF5.out.trans HF6.out)).mono ?_
      rintro e w7 ⟨rfl, f7⟩
      have HF7 := Lib.hid f7
      obtain ⟨w8, hw8⟩ : ∃ w8, w8 = w7.alloc (.cells #[.int .i64 yi, .int .i64 yc, .int .i64 ym, .int .i64 yt, .float .f64 ys] 28) := ⟨_, rfl⟩
      have HF8 : Hid (Fresh w7 w8) := Lib.hid (by rw [hw8]; exact (Frm.refl _ w7).alloc _)
      obtain ⟨a0, a1, a2, a3, a4⟩ := BY.out w8 (f7.trans HF8.out)
      obtain ⟨e0, e1, e2, e3, e4⟩ : Five w8 w7.heap.size 0 ⟨yi, yc, ym, yt, ys⟩ := by
        have B1 : Blk w8 w7.heap.size 28 (wcells ⟨yi, yc, ym, yt, ys⟩).toArray := by rw [hw8]; exact Blk.new w7 _ _
        exact five_blk B1
      dsimp only at a0 a1 a2 a3 a4 e0 e1 e2 e3 e4
      rw [hw8] at a0 a1 a2 a3 a4 e0 e1 e2 e3 e4
      clear f7 d6 hw6
      go_wp2_with fail
      rw [← hw8]
      refine (HSW.out w8).mono ?_
      rintro e w9 ⟨rfl, f9⟩
      have HB9 := Lib.hid (HB.out.fresh ((((HF5.out.trans HF6.out).trans HF7.out).trans HF8.out).trans f9))
      clear f9 hw8 a0 a1 a2 a3 a4 e0 e1 e2 e3 e4
      go_wp2_with fail
      go_ret
      exact ⟨by simp, v, u, l, HB9.out, HG.out, HWD.out⟩
end Go.Proofs.Ythofodjklogfgaa

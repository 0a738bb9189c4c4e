/- New, Add, Remove of the program's list. -/
import Derived.Test.YthofodjklogfgaaQueue8
namespace Go.Proofs.Ythofodjklogfgaa
open Go.RowKit QueueM
attribute [local go_sem ↓] Go.wp_at_zero Go.wp_at_succ
attribute [local go_sem] run_store_float

theorem IsQ.fresh {w w' : World} {B b : Nat} {v : Value} {l : List Wt} (h : IsQ w B b v l) (F : Fresh w w') : IsQ w' B b v l := ⟨h.blk.frm F (fun f => f), h.ge, h.sl.fresh F⟩
/-- what a step leaves: the list's own blocks alone have turned -/
def StepQ (w : World) (B b : Nat) (v : Value) (l : List Wt) (w' : World) : Prop :=
  ∃ v', IsQ w' B b v' l ∧ Frm (fun k => k = b ∨ v.ownBlock = some k) w w' ∧ (v'.ownBlock = v.ownBlock ∨ ∃ k, v'.ownBlock = some k ∧ w.heap.size ≤ k)
theorem StepQ.still {w w' : World} {B b : Nat} {v : Value} {l : List Wt} (h : IsQ w B b v l) (F : Fresh w w') : StepQ w B b v l w' := ⟨v, h.fresh F, F.frm, .inl rfl⟩
theorem new_any (w : World) : Calls Try.prog 10 #[] w fun e w' => e = .returned (.pointer (some ⟨w.heap.size, 0, none⟩)) ∧ IsQ w' w.heap.size w.heap.size (.slice none 0 0) [] ∧ Fresh w w' := by
  have H : IsQ (w.alloc (.cells #[.slice none 0 0] 60)) w.heap.size w.heap.size (.slice none 0 0) [] := ⟨Blk.new w _ _, Nat.le_refl _, Sl.nil _ _ _ _⟩
  have F := (Frm.refl (fun _ => False) w).alloc (.cells #[.slice none 0 0] 60)
  have HH := Lib.hid H
  have HF := Lib.hid F
  clear H F
  go_enter Try.func10, Try.ntmps10
  go_wp2_with fail
  go_ret
  exact ⟨rfl, HH.out, HF.out⟩
theorem stored {w : World} {B b n : Nat} {v v' : Value} {xs : List Value} (hB : B ≤ b) (hb : Blk w b 60 #[v]) (hs : Sl w B 62 5 v' n xs) :
    Blk (w.setCell ⟨b, 0, none⟩ v') b 60 #[v'] ∧ Sl (w.setCell ⟨b, 0, none⟩ v') B 62 5 v' n xs := by
  have hap := hs.apart hb (by decide)
  refine ⟨hb.set 0 v', hs.frm ((Frm.refl (fun k => k = b) w).setCell (p := ⟨b, 0, none⟩) (fun _ => rfl) v') (fun k hk h => ?_)⟩
  subst h
  exact hap hk
theorem own_frm {w w3 w5 : World} {b : Nat} {v v' : Value} (F : Fresh w w3) (G : Frm (fun k => v.ownBlock = some k) w3 w5) : Frm (fun k => k = b ∨ v.ownBlock = some k) w (w5.setCell ⟨b, 0, none⟩ v') := by
  have h1 : Frm (fun k => k = b ∨ v.ownBlock = some k) w w5 := (Fresh.frm F).trans' G (fun k _ h => Or.inr h)
  exact h1.setCell (p := ⟨b, 0, none⟩) (fun _ => Or.inl rfl) v'
def AddPost (w : World) (B b : Nat) (v : Value) (x : Wt) (l : List Wt) (e : Ending) (w' : World) : Prop :=
  e = .returned (.int .i64 (add x l).1) ∧ StepQ w B b v (add x l).2 w'
set_option maxRecDepth 100000 in
set_option maxHeartbeats 4000000 in
theorem add_any (w : World) (B b : Nat) (v : Value) (l : List Wt) (x : Wt) (h : IsQ w B b v l) (hl : QueueM.Good l) :
    Calls Try.prog 11 #[.pointer (some ⟨b, 0, none⟩), wagg x] w fun e w' => AddPost w B b v x l e w' := by
  have hlen := hl.few
  have HG := Lib.hid hl
  have HQ := Lib.hid h
  clear hl h
  have HR : Hid (∀ w, Calls Try.prog 23 #[.agg #[.int .i64 x.id, .int .i64 x.cls, .int .i64 x.many, .int .i64 x.time, .float .f64 x.score]] w fun e w' => e = .returned (.bool (right x)) ∧ Fresh w w') := Lib.hid fun w => right_any x.id x.cls x.many x.time x.score w
  have HSE : Hid (∀ (w : World) (A : Option Addr) (cap : Nat), Rd w w.heap.size A (l.flatMap wcells) → Calls Try.prog 25 #[.slice A l.length cap, .agg #[.int .i64 x.id, .int .i64 x.cls, .int .i64 x.many, .int .i64 x.time, .float .f64 x.score], .func (.func 26) #[] #[]] w
      fun e w' => SearchPost w (cnt x l) e w') := Lib.hid fun w A cap hA => search_any w A cap l x hA (by omega) HG.out.sorted
  have HX1 : Hid (∀ u ∈ wcells x, u.oneCell' = true) := Lib.hid (by have := wcells_one [x]; simpa using this)
  have HADD := Lib.hid (show add x l = if right x = true then (if has x.id l = true then (7, l) else if 200 ≤ l.length then (3, l) else (0, ins x l)) else (1, l) from rfl)
  have HWC := Lib.hid (show wcells x = [.int .i64 x.id, .int .i64 x.cls, .int .i64 x.many, .int .i64 x.time, .float .f64 x.score] from rfl)
  unfold wagg
  obtain ⟨xi, xc, xm, xt, xs⟩ := x
  dsimp only at HR HSE HADD HWC ⊢
  go_enter Try.func11, Try.ntmps11
  go_wp2_with fail
  obtain ⟨w0, hw0⟩ : ∃ w0, (w.alloc (.cells #[.int .i64 xi, .int .i64 xc, .int .i64 xm, .int .i64 xt, .float .f64 xs] 28)).alloc (.cells #[.int .i64 xi, .int .i64 xc, .int .i64 xm, .int .i64 xt, .float .f64 xs] 62) = w0 := ⟨_, rfl⟩
  rw [hw0]
  have HF0 : Hid (Fresh w w0) := Lib.hid (by rw [← hw0]; exact ((Frm.refl _ w).alloc _).alloc _)
  have BX : Hid (∀ w', Fresh w0 w' → Five w' w.heap.size 0 ⟨xi, xc, xm, xt, xs⟩ ∧ Five w' (w.heap.size + 1) 0 ⟨xi, xc, xm, xt, xs⟩) := Lib.hid fun w' F => by
    have B1 : Blk w0 w.heap.size 28 (wcells ⟨xi, xc, xm, xt, xs⟩).toArray := by rw [← hw0]; exact (Blk.new w _ _).alloc _
    have B2 : Blk w0 (w.heap.size + 1) 62 (wcells ⟨xi, xc, xm, xt, xs⟩).toArray := by
      rw [← hw0]
      have := Blk.new (w.alloc (.cells #[.int .i64 xi, .int .i64 xc, .int .i64 xm, .int .i64 xt, .float .f64 xs] 28)) 62 #[.int .i64 xi, .int .i64 xc, .int .i64 xm, .int .i64 xt, .float .f64 xs]
      rwa [World.size_alloc] at this
    exact ⟨five_blk (B1.frm F (fun f => f)), five_blk (B2.frm F (fun f => f))⟩
  have HQ0 := Lib.hid (HQ.out.fresh HF0.out)
  clear hw0
  generalize hrr : right ⟨xi, xc, xm, xt, xs⟩ = r at HR HADD
  clear hrr
  refine (HR.out w0).mono ?_
  rintro e w1 ⟨rfl, f1⟩
  have HF1 := Lib.hid f1
  have HQ1 := Lib.hid (HQ0.out.fresh f1)
  obtain ⟨⟨a0, a1, a2, a3, a4⟩, ⟨d0, d1, d2, d3, d4⟩⟩ := BX.out w1 f1
  dsimp only at a0 a1 a2 a3 a4 d0 d1 d2 d3 d4
  clear f1
  cases r with
  | false =>
    go_wp2_with fail
    go_ret
    rw [if_neg (by simp)] at HADD
    exact ⟨by rw [HADD.out]; exact rfl, by rw [HADD.out]; exact StepQ.still HQ.out (HF0.out.trans HF1.out)⟩
  | true =>
    rw [if_pos rfl] at HADD
    have HPL := Lib.hid (place_any w1 B b v l xi HQ1.out (by omega))
    rcases Bool.eq_false_or_eq_true (has xi l) with hh | hh
    · rw [hh, if_pos rfl] at HADD
      have hp := (plc_yes hh).1
      rw [hp] at HPL
      have hp0 : (0 : Int) ≤ (place xi l : Int) := by omega
      clear hp hh
      generalize (place xi l : Int) = p at HPL hp0
      go_wp2_with fail
      refine HPL.out.mono ?_
      rintro e w2 ⟨rfl, f2⟩
      have HF2 := Lib.hid f2
      clear f2
      go_wp2_with fail
      go_ret
      exact ⟨by rw [HADD.out]; exact rfl, by rw [HADD.out]; exact StepQ.still HQ.out ((HF0.out.trans HF1.out).trans HF2.out)⟩
    · rw [hh, if_neg (by simp)] at HADD
      have HHAS := Lib.hid hh
      rw [plc_no hh] at HPL
      clear hh
      go_wp2_with fail
      refine HPL.out.mono ?_
      rintro e w2 ⟨rfl, f2⟩
      have HF2 := Lib.hid (HF1.out.trans f2)
      have HQ2 := Lib.hid (HQ1.out.fresh f2)
      have hc := (HQ1.out.fresh f2).blk.cell 0
      obtain ⟨A, cap, rfl, hnc, hcm, _⟩ := HQ.out.sl.shape
      have hc : w2.cell? ⟨b, 0, none⟩ = some (.slice A l.length cap) := hc
      clear f2 a0 a1 a2 a3 a4 d0 d1 d2 d3 d4
      by_cases hfew : 200 ≤ l.length
      · rw [if_pos hfew] at HADD
        have hfi : (200 : Int) ≤ (l.length : Int) := by omega
        go_wp2_with fail
        go_ret
        exact ⟨by rw [HADD.out]; exact rfl, by rw [HADD.out]; exact StepQ.still HQ.out (HF0.out.trans HF2.out)⟩
      · rw [if_neg hfew] at HADD
        have hfi : ¬ (200 : Int) ≤ (l.length : Int) := by omega
        have CELL : Hid (∀ w', Fresh w2 w' → w'.cell? ⟨b, 0, none⟩ = some (.slice A l.length cap) ∧ w'.cell? ⟨w.heap.size + 1, 0, none⟩ = some (.int .i64 xi) ∧ w'.cell? ⟨w.heap.size + 1, 1, none⟩ = some (.int .i64 xc) ∧ w'.cell? ⟨w.heap.size + 1, 2, none⟩ = some (.int .i64 xm) ∧ w'.cell? ⟨w.heap.size + 1, 3, none⟩ = some (.int .i64 xt) ∧ w'.cell? ⟨w.heap.size + 1, 4, none⟩ = some (.float .f64 xs)) := Lib.hid fun w' F => by
          have c := (BX.out w' (HF2.out.trans F)).2
          exact ⟨(HQ2.out.fresh F).blk.cell 0, c.1, c.2.1, c.2.2.1, c.2.2.2.1, c.2.2.2.2⟩
        have HSR := Lib.hid (HSE.out w2.drew A cap (HQ2.out.sl.rd))
        go_wp2_with fail
        go_region_held3 (fun w' => w'.cell? ⟨b, 0, none⟩ = some (.slice A l.length cap) ∧ w'.cell? ⟨w.heap.size + 1, 0, none⟩ = some (.int .i64 xi) ∧ w'.cell? ⟨w.heap.size + 1, 1, none⟩ = some (.int .i64 xc) ∧ w'.cell? ⟨w.heap.size + 1, 2, none⟩ = some (.int .i64 xm) ∧ w'.cell? ⟨w.heap.size + 1, 3, none⟩ = some (.int .i64 xt) ∧ w'.cell? ⟨w.heap.size + 1, 4, none⟩ = some (.float .f64 xs))
          (first | exact CELL.out _ (Frm.refl _ _) | exact CELL.out _ ((Frm.refl _ _).drew) | exact CELL.out _ (((Frm.refl _ _).drew).trans HF3.out))
          (first
            | (go_at_call 25; refine (HSR.out).mono ?_; rintro e w3 ⟨bb, rfl, f3⟩; have HF3 := Lib.hid f3; clear f3))
        go_wp2_with fail
        have HF5 := Lib.hid ((HF0.out.trans HF2.out).trans ((Frm.refl (fun _ => False) w2).drew.trans HF3.out))
        have HQ5 := Lib.hid (HQ.out.fresh HF5.out)
        obtain ⟨w4, hw4⟩ : ∃ w4, w3.drew.alloc (.cells #[.int .i64 xi, .int .i64 xc, .int .i64 xm, .int .i64 xt, .float .f64 xs] 62) = w4 := ⟨_, rfl⟩
        have F4 : Fresh w3 w4 := by rw [← hw4]; exact ((Frm.refl _ w3).drew).alloc _
        have HQ4 := Lib.hid (HQ5.out.fresh F4)
        have B4 : Blk w4 w3.heap.size 62 (wcells ⟨xi, xc, xm, xt, xs⟩).toArray := by rw [← hw4]; exact Blk.new w3.drew _ _
        have hge := HQ5.out.ge
        have hblt := HQ5.out.blk.lt
        have hsz4 := F4.size
        have HAP := Lib.hid (HQ5.out.sl.apart HQ5.out.blk (by decide))
        have HINS := Lib.hid (insert_any w4 B (.slice A l.length cap) l.length (l.flatMap wcells) HQ4.out.sl (by omega) (by omega) (cnt ⟨xi, xc, xm, xt, xs⟩ l) (cnt_le _ _) (wcells_one l) w3.heap.size (wcells ⟨xi, xc, xm, xt, xs⟩) B4 rfl HX1.out (fun h => by
          have := (HQ5.out.sl.lt _ h).2
          omega))
        have g0 := CELL.out w3 ((Frm.refl _ _).drew.trans HF3.out)
        obtain ⟨g0, g1, g2, g3, g4, g5⟩ := g0
        have HF4 := Lib.hid F4
        have HCE : Hid (∀ w5 : World, Frm (fun k => (Value.slice A l.length cap).ownBlock = some k) w4 w5 → w5.cell? ⟨b, 0, none⟩ = some (.slice A l.length cap) ∧ w5.frozen? ⟨b, 0, none⟩ = false) := Lib.hid fun w5 F => by
          have k := HQ4.out.blk.frm F HAP.out
          exact ⟨k.cell 0, k.frozen 0⟩
        have SIX : Hid (∀ w', Frm (fun k => (Value.slice A l.length cap).ownBlock = some k) w3 w' → w'.cell? ⟨b, 0, none⟩ = some (.slice A l.length cap) ∧ w'.cell? ⟨w.heap.size + 1, 0, none⟩ = some (.int .i64 xi) ∧ w'.cell? ⟨w.heap.size + 1, 1, none⟩ = some (.int .i64 xc) ∧ w'.cell? ⟨w.heap.size + 1, 2, none⟩ = some (.int .i64 xm) ∧ w'.cell? ⟨w.heap.size + 1, 3, none⟩ = some (.int .i64 xt) ∧ w'.cell? ⟨w.heap.size + 1, 4, none⟩ = some (.float .f64 xs)) := Lib.hid fun w' F => by
          have hw0 := HF0.out.size
          have hlt1 : w.heap.size + 1 < w3.heap.size := World.block_lt_of_cell? _ _ g1
          have k := fun j => F.cell (p := ⟨w.heap.size + 1, j, none⟩) hlt1 (fun h => by
            have := (HQ.out.sl.lt _ h).2
            simp only at this
            omega)
          exact ⟨(F.cell (p := ⟨b, 0, none⟩) hblt (HAP.out)).trans g0, (k 0).trans g1, (k 1).trans g2, (k 2).trans g3, (k 3).trans g4, (k 4).trans g5⟩
        clear B4 F4
        have g6 := (HCE.out w4 (Frm.refl _ _)).1
        go_region_with (first
            | (go_at_call 27; refine (HINS.out).mono ?_; rintro e w5 ⟨v5, rfl, hs5, hf5, ho5⟩; obtain ⟨A5, c5, rfl, _⟩ := hs5.shape; obtain ⟨k1, k2⟩ := HCE.out w5 hf5; have HS5 := Lib.hid hs5; have HFR5 := Lib.hid hf5; have HO5 := Lib.hid ho5; clear hs5 hf5 ho5))
        all_goals (
          have HB5 := Lib.hid (HQ4.out.blk.frm HFR5.out HAP.out)
          have HS6 := Lib.hid (stored hge HB5.out HS5.out)
          have HFF : Hid (Frm (fun k => k = b ∨ (Value.slice A l.length cap).ownBlock = some k) w (w5.setCell ⟨b, 0, none⟩ (.slice A5 (l.length + 1) c5))) := Lib.hid (own_frm (HF5.out.trans HF4.out) HFR5.out)
          have hsz5 := (HF5.out.trans HF4.out).size
          have HIN := Lib.hid (wcells_ins ⟨xi, xc, xm, xt, xs⟩ l)
          clear k1 k2 hw4 g0 g1 g2 g3 g4 g5 g6
          go_wp2_with fail
          go_ret
          exact ⟨by rw [HADD.out]; exact rfl, by rw [HADD.out]; exact ⟨_, ⟨HS6.out.1, hge, by show Sl _ _ _ _ _ (ins _ l).length _; rw [ins_length, HIN.out]; exact HS6.out.2⟩, HFF.out, HO5.out.elim .inl (fun ⟨k, h1, h2⟩ => .inr ⟨k, h1, by omega⟩)⟩⟩)
end Go.Proofs.Ythofodjklogfgaa

/- Lost, taken. -/
import Derived.Test.YtlceembcehokoaaNet9
namespace Go.Proofs.Ytlceembcehokoaa
open Go.RowKit
set_option maxRecDepth 100000

def KeepP (w w' : World) : Prop := ∀ g t cs, t ≠ 101 → t ≠ 97 → Blk w g t cs → Blk w' g t cs
theorem Sl.keepP {w w' : World} {B e size n : Nat} {v : Value} {xs : List Value} (h : Sl w B e size v n xs) (k : KeepP w w') (h1 : e ≠ 101) (h2 : e ≠ 97) : Sl w' B e size v n xs := by
  obtain ⟨hl, h0 | ⟨g, o, cap, cur, hv, hb, hh, hr⟩⟩ := h
  · exact ⟨hl, .inl h0⟩
  · exact ⟨hl, .inr ⟨g, o, cap, cur, hv, hb, k g e cur h1 h2 hh, hr⟩⟩
def LosePost (w0 : World) (b m : Nat) (r : List Pk) (w : World) (e : Ending) (w' : World) : Prop :=
  e = .returned (.int .i64 0) ∧ IsP w0 b m r w' ∧ KeepP w w'
set_option maxHeartbeats 4000000 in
theorem lose_any (w0 w : World) (b m : Nat) (p : Pk) (r : List Pk) (h : IsP w0 b m (p :: r) w) (hl : (p :: r).length ≤ 200) :
    Calls Try.prog 28 #[.pointer (some ⟨b, 0, none⟩), .int .i64 0] w fun e w' => LosePost w0 b m r w e w' := by
  obtain ⟨g, o, cap, hb, hs, _, _, _⟩ := h.head
  have HP := Lib.hid h
  have HB := Lib.hid hb
  have HS := Lib.hid hs
  have HH := Lib.hid (has_any w0 w b m p r h hl)
  have c0 : w.cell? ⟨b, 0, none⟩ = some (.slice (some ⟨g, o, none⟩) (r.length + 1) cap) := hb.cell 0
  rw [List.length_cons] at hl
  have HD : Hid (Calls Try.prog 72 #[.slice (some ⟨g, o, none⟩) (r.length + 1) cap, .int .i64 0, .int .i64 1] w fun e w' => DelPost w w0.heap.size (.slice (some ⟨g, o, none⟩) (r.length + 1) cap) r.length (r.flatMap pcells) e w') :=
    Lib.hid (delete_any w w0.heap.size _ (r.length + 1) _ hs (by omega) 0 (by omega) h.one)
  obtain ⟨k, hk⟩ : ∃ k, k = r.length + 1 := ⟨_, rfl⟩
  rw [← hk] at c0 HB HS HD
  have HK := Lib.hid hk
  clear h hb hs hk
  go_enter Try.func28, Try.ntmps28
  go_wp2_with fail
  refine HH.out.mono ?_
  rintro e w1 ⟨rfl, rfl⟩
  go_wp2_with fail
  refine HD.out.mono ?_
  rintro e w5 ⟨v5, rfl, hs5, hf5⟩
  have HR := Lib.hid (isP_put (l := p :: r) (l' := r) HB.out (by rw [show (p :: r).length = k from HK.out.symm]; exact HS.out) HP.out.map HP.out.low HP.out.frm (fun q hq => HP.out.own q (by simp [hq])) hf5 hs5)
  have HKP : Hid (KeepP w1 (w5.setCell ⟨b, 0, none⟩ v5)) := Lib.hid (fun g' t cs h1 h2 hg => by
    have hg5 : Blk w5 g' t cs := hg.frm hf5 (fun e => HS.out.apart hg (Ne.symm h1) e)
    exact hg5.far (hg.apart HB.out h2) v5)
  have c5 := HR.out.2.1
  have z5 := HR.out.2.2
  obtain ⟨A5, cp5, rfl, _⟩ := hs5.shape
  clear hs5 hf5
  go_wp2_with fail
  go_ret
  exact ⟨rfl, HR.out.1, HKP.out⟩
def TookPost (w0 : World) (b m : Nat) (p : Pk) (r : List Pk) (w : World) (e : Ending) (w' : World) : Prop :=
  ∃ v, e = .returned (.tuple #[.agg #[.int .i64 p.f, .int .i64 p.t, v], .int .i64 0]) ∧ Sl w' w0.heap.size 5 1 v p.bs.length (p.bs.map bv) ∧ IsP w0 b m r w'
set_option maxHeartbeats 4000000 in
theorem take_any (w0 w : World) (b m : Nat) (p : Pk) (r : List Pk) (h : IsP w0 b m (p :: r) w) (hl : (p :: r).length ≤ 200) (hbl : p.bs.length ≤ 1000) :
    Calls Try.prog 22 #[.pointer (some ⟨b, 0, none⟩), .int .i64 0] w fun e w' => TookPost w0 b m p r w e w' := by
  obtain ⟨W, hW⟩ : ∃ W, w.alloc (.cells #[.int .i64 0, .int .i64 0, .slice none 0 0] 45) = W := ⟨_, rfl⟩
  have FW : Fresh w W := by rw [← hW]; exact (Frm.refl _ w).alloc _
  have BP : Hid (Blk W w.heap.size 45 #[.int .i64 0, .int .i64 0, .slice none 0 0]) := Lib.hid (by rw [← hW]; exact Blk.new w _ _)
  have HP := Lib.hid (h.fresh FW)
  have HC := Lib.hid (copy_any w0 W b m p r HP.out hl hbl)
  have hw0 : w0.heap.size ≤ w.heap.size := h.frm.size
  clear h FW
  obtain ⟨pf, pt, pv, pb⟩ := p
  go_enter Try.func22, Try.ntmps22
  go_wp2_with fail
  clear hW
  refine HC.out.mono ?_
  rintro e w2 ⟨v2, rfl, hs2, f2⟩
  obtain ⟨A2, c2, rfl, _⟩ := hs2.shape
  dsimp only at hs2 ⊢
  obtain ⟨W3, hW3⟩ : ∃ W3, w2.alloc (.cells #[.int .i64 pf, .int .i64 pt, .slice A2 pb.length c2] 45) = W3 := ⟨_, rfl⟩
  have F3 : Fresh w2 W3 := by rw [← hW3]; exact (Frm.refl _ w2).alloc _
  have HQ : Hid (Blk W3 w2.heap.size 45 #[.int .i64 pf, .int .i64 pt, .slice A2 pb.length c2]) := Lib.hid (by rw [← hW3]; exact Blk.new w2 _ _)
  have HP3 := Lib.hid (HP.out.fresh (f2.trans F3))
  have HB3 := Lib.hid (BP.out.frm (f2.trans F3) (fun f => f))
  have HS3 := Lib.hid ((hs2.fresh F3).less (B' := w0.heap.size) (by have := BP.out.lt; omega))
  have hne : w.heap.size ≠ w2.heap.size := by have := BP.out.lt; have := f2.size; omega
  have HL := Lib.hid (lose_any w0 W3 b m _ r HP3.out hl)
  clear hs2 f2 F3
  go_wp2_with fail
  try rw [hW3]
  clear hW3
  refine HL.out.mono ?_
  rintro e w4 ⟨rfl, h4, k4⟩
  have q4 := k4 _ _ _ (by decide) (by decide) HQ.out
  have b4 := k4 _ _ _ (by decide) (by decide) HB3.out
  have HP4 := Lib.hid h4
  have HS4 := Lib.hid (Sl.keepP HS3.out k4 (by decide) (by decide))
  have HB4 := Lib.hid b4
  have y0 : w4.cell? ⟨w2.heap.size, 0, none⟩ = some (.int .i64 pf) := q4.cell 0
  have y1 : w4.cell? ⟨w2.heap.size, 1, none⟩ = some (.int .i64 pt) := q4.cell 1
  have y2 : w4.cell? ⟨w2.heap.size, 2, none⟩ = some (.slice A2 pb.length c2) := q4.cell 2
  have x0 : w4.cell? ⟨w.heap.size, 0, none⟩ = some (.int .i64 0) := b4.cell 0
  have x1 : w4.cell? ⟨w.heap.size, 1, none⟩ = some (.int .i64 0) := b4.cell 1
  have x2 : w4.cell? ⟨w.heap.size, 2, none⟩ = some (.slice none 0 0) := b4.cell 2
  have z0 : w4.frozen? ⟨w.heap.size, 0, none⟩ = false := b4.frozen 0
  have z1 : w4.frozen? ⟨w.heap.size, 1, none⟩ = false := b4.frozen 1
  have z2 : w4.frozen? ⟨w.heap.size, 2, none⟩ = false := b4.frozen 2
  clear h4 k4 q4 b4
  go_wp2_with fail
  have hb2 := ((HB4.out.set 0 (.int .i64 pf)).set 1 (.int .i64 pt)).set 2 (.slice A2 pb.length c2)
  have F4 : Frm (fun k => k = w.heap.size) w4 (((w4.setCell ⟨w.heap.size, 0, none⟩ (.int .i64 pf)).setCell ⟨w.heap.size, 1, none⟩ (.int .i64 pt)).setCell ⟨w.heap.size, 2, none⟩ (.slice A2 pb.length c2)) :=
    (((Frm.refl (fun k => k = w.heap.size) w4).setCell (p := ⟨w.heap.size, 0, none⟩) (fun _ => rfl) _).setCell (p := ⟨w.heap.size, 1, none⟩) (fun _ => rfl) _).setCell (p := ⟨w.heap.size, 2, none⟩) (fun _ => rfl) _
  have hld := run_loadVar_row (P := Try.prog) _ (w.heap.size) 45 45 #[.int .i64 pf, .int .i64 pt, .slice A2 pb.length c2] (0, 0) _ hb2 Try.underlying45 rfl (by kernel_rfl)
  refine bodyPost_ret (v := .tuple #[.agg #[.int .i64 pf, .int .i64 pt, .slice A2 pb.length c2], .int .i64 0]) ?_ rfl ⟨_, rfl, ?_, ?_⟩
  · rw [results_cell_tmp Try.results22]
    show (((asAddr (.pointer (some ⟨w.heap.size, 0, none⟩))).run Try.prog _).andThen fun a w₁ => ((loadVar 45 a).run Try.prog w₁).andThen fun v w₂ => Result.ok (Value.tuple #[v, Value.int .i64 0]) w₂) = _
    simp only [asAddr, Sem.run_pure, Result.andThen_ok, hld]
  · exact HS4.out.frm F4 (fun k hk e => by subst e; exact HS4.out.apart HB4.out (by decide) hk)
  · obtain ⟨v, g1, g2⟩ := HP4.out.ex
    exact ⟨⟨v, g1.frm F4 (g1.apart HB4.out (by decide)), g2.frm F4 (fun k hk e => by subst e; exact g2.apart HB4.out (by decide) hk)⟩, fun q hq => (HP4.out.own q hq).frm F4 (fun k hk e => by subst e; exact (HP4.out.own q hq).apart HB4.out (by decide) hk), OM.frm HP4.out.map F4 (OM.not_cells HP4.out.map HB4.out), HP4.out.low, HP4.out.frm.trans' F4 (fun k hk e => by omega)⟩
end Go.Proofs.Ytlceembcehokoaa

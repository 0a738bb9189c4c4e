/- Sent, copied, lost, taken. -/
import Derived.Test.YtlceembcehokoaaNet8
import Derived.Laws.ResultCell
namespace Go.Proofs.Ytlceembcehokoaa
open Go.RowKit
set_option maxRecDepth 100000

def SendPPost (w0 : World) (b m : Nat) (l : List Pk) (t : Int) (bs : List UInt8) (e : Ending) (w' : World) : Prop :=
  e = .returned (.bool true) ∧ ∃ v, IsP w0 b m (l ++ [⟨1, t, v, bs⟩]) w'
set_option maxHeartbeats 8000000 in
theorem sendP_any (w0 w : World) (b m : Nat) (l : List Pk) (h : IsP w0 b m l w) (hn : l.length ≤ 200) (t : Int) (t1 : 1 ≤ t) (t2 : t ≤ 15) (twf : (Lit.int .i64 t).wf = true) (AB : Option Addr) (cb : Nat) (bs : List UInt8) (hr : Rd w w.heap.size AB (bs.map bv)) (hbl : bs.length ≤ 1000) (hbc : bs.length ≤ cb) (hbm : cb ≤ maxLen) :
    Calls Try.prog 18 #[.pointer (some ⟨b, 0, none⟩), .agg #[.int .i64 1, .int .i64 t, .slice AB bs.length cb]] w fun e w' => SendPPost w0 b m l t bs e w' := by
  obtain ⟨i0, hi, hz0, hz1, hz2⟩ := info_parts info_pk
  obtain ⟨W, hW⟩ : ∃ W, w.alloc (.cells #[.int .i64 1, .int .i64 t, .slice AB bs.length cb] 45) = W := ⟨_, rfl⟩
  have FW : Fresh w W := by rw [← hW]; exact (Frm.refl _ w).alloc _
  have BP : Hid (Blk W w.heap.size 45 #[.int .i64 1, .int .i64 t, .slice AB bs.length cb]) := Lib.hid (by rw [← hW]; exact Blk.new w _ _)
  have HN := Lib.hid (h.fresh FW)
  obtain ⟨v, hb, hs⟩ := HN.out.ex
  have HRB := Lib.hid ((hr.fresh (Nat.le_refl _) FW).more FW.size)
  obtain ⟨A, cap, rfl, hcl, hcm, _⟩ := hs.shape
  have HB := Lib.hid hb
  have HS := Lib.hid hs
  have HNO : Hid (∀ (n : Int) (w : World), 1 ≤ n → n ≤ 15 → Calls Try.prog 67 #[.int .i64 n] w fun e w' => e = .returned (.bool true) ∧ w' = w) := Lib.hid fun n w h1 h2 => by
    have := node_any n w
    simpa [h1, h2] using this
  have SS : Hid (W.drew.cell? ⟨w.heap.size, 0, none⟩ = some (.int .i64 1) ∧ W.drew.cell? ⟨w.heap.size, 1, none⟩ = some (.int .i64 t) ∧ W.drew.cell? ⟨w.heap.size, 2, none⟩ = some (.slice AB bs.length cb) ∧ W.drew.cell? ⟨b, 0, none⟩ = some (.slice A l.length cap) ∧ W.drew.cell? ⟨b, 1, none⟩ = some (.map (some m))) :=
    Lib.hid ⟨BP.out.cell 0, BP.out.cell 1, BP.out.cell 2, HB.out.cell 0, HB.out.cell 1⟩
  have hask : (Instr.lookup 94 (.map (some m)) (.agg #[.int .i64 1, .int .i64 t]) false).run Try.prog W.drew = .ok (.bool false) W.drew :=
    OM.ask (w := W.drew) (b := m) (n := 0) HN.out.map.drew (Maps.Keyed.of_law pair_key.law) Try.underlying94 Try.underlying4 (zero_bool W.drew) (WideMaps.keyOf_pair (a := 1) (b := t) pair_key Try.underlying3 types_size (by decide) twf) (r := false) rfl
  have hn0 : (0 : Int) ≤ (l.length : Int) := by omega
  clear h hb hs FW hr
  have hge : ¬ (4096 : Int) ≤ (l.length : Int) := by omega
  have hbi : ¬ (70000 : Int) < (bs.length : Int) := by omega
  have hbd : decide ((70000 : Int) < (bs.length : Int)) = false := by simp; omega
  have hbn : decide (70000 < bs.length) = false := by simp; omega
  go_enter Try.func18, Try.ntmps18
  go_wp2_with fail
  clear hW
  go_region_held3 (fun w' => w'.cell? ⟨w.heap.size, 0, none⟩ = some (.int .i64 1) ∧ w'.cell? ⟨w.heap.size, 1, none⟩ = some (.int .i64 t) ∧ w'.cell? ⟨w.heap.size, 2, none⟩ = some (.slice AB bs.length cb) ∧ w'.cell? ⟨b, 0, none⟩ = some (.slice A l.length cap) ∧ w'.cell? ⟨b, 1, none⟩ = some (.map (some m)))
    (exact SS.out)
    (first
      | (go_at_call 67; refine (HNO.out _ _ (by omega) (by omega)).mono ?_; rintro e w' ⟨rfl, rfl⟩))
  have SD := SS.out
  obtain ⟨d0, d1, d2, d3, d4⟩ := SD
  have d0 : W.drew.drew.cell? ⟨w.heap.size, 0, none⟩ = some (.int .i64 1) := d0
  have d1 : W.drew.drew.cell? ⟨w.heap.size, 1, none⟩ = some (.int .i64 t) := d1
  have d2 : W.drew.drew.cell? ⟨w.heap.size, 2, none⟩ = some (.slice AB bs.length cb) := d2
  have d3 : W.drew.drew.cell? ⟨b, 0, none⟩ = some (.slice A l.length cap) := d3
  have HCO := Lib.hid (copied_any W.drew.drew 1 t AB cb bs HRB.out (by omega) hbc hbm)
  go_wp2_with fail
  go_region_law
    ((first
      | (refine step_append_sl (by rfl) (.tmp 45) (.tmp 49) 95 (by rfl) w0.heap.size 101 i0 _ 4 48 Try.underlying95 hi hz0 hz1 hz2 rfl (by omega) (.slice A l.length cap) l.length (l.flatMap pcells) (by rfl) HS4.out _ (some ⟨w3.heap.size, 0, none⟩) 1 1 [.int .i64 1, .int .i64 t, .slice A3 bs.length c3, .bool false] (by rfl) (by rfl) HR4.out HO4.out (by unfold maxLen; omega) (by omega) (by have := HF4.out.size; omega) ?_; intro v5 w5 hs5 hf5 _; have HP := Lib.hid (isP_put (l' := l ++ [⟨1, t, .slice A3 bs.length c3, bs⟩]) HB4.out HS4.out HM4.out HN.out.low HF4.out HO3.out hf5 (by rw [List.length_append, List.flatMap_append]; exact hs5)); obtain ⟨A5, cp5, rfl, _⟩ := hs5.shape; have c5 := HP.out.2.1; have z5 := HP.out.2.2; clear hs5 hf5)
      | (go_simp; go_at_call 68; show Calls _ _ #[.agg #[.int .i64 1, .int .i64 t, .slice AB bs.length cb]] W.drew.drew _; refine HCO.out.mono ?_; rintro e w3 ⟨v3, rfl, hs3, f3⟩; obtain ⟨A3, c3, rfl, _⟩ := hs3.shape; have HF3 := Lib.hid (HN.out.frm.trans ((((Frm.refl _ W).drew).drew).trans f3)); have hb3 := HB.out.frm ((((Frm.refl (fun _ => False) W).drew).drew).trans f3) (fun f => f); have e3 : w3.cell? ⟨b, 0, none⟩ = some (.slice A l.length cap) := hb3.cell 0; have e4 : ∀ o, (w3.alloc o).cell? ⟨b, 0, none⟩ = some (.slice A l.length cap) := (fun o => (hb3.alloc o).cell 0); have HB4 : Hid (Blk (w3.alloc (.cells #[.int .i64 1, .int .i64 t, .slice A3 bs.length c3, .bool false] 101)) b 97 #[.slice A l.length cap, .map (some m)]) := Lib.hid (hb3.alloc _); have HS4 : Hid (Sl (w3.alloc (.cells #[.int .i64 1, .int .i64 t, .slice A3 bs.length c3, .bool false] 101)) w0.heap.size 101 4 (.slice A l.length cap) l.length (l.flatMap pcells)) := Lib.hid ((HS.out.fresh ((((Frm.refl _ W).drew).drew).trans f3)).alloc _); have HM4 : Hid ((w3.alloc (.cells #[.int .i64 1, .int .i64 t, .slice A3 bs.length c3, .bool false] 101)).ownsMap Try.prog 98 (plainElem (H := Unit) Try.prog 4) m 0 (.map [])) := Lib.hid (World.ownsMap.alloc (OM.frm HN.out.map ((((Frm.refl (fun _ => False) W).drew).drew).trans f3) (fun f => f)) _); have HF4 : Hid (Fresh w0 (w3.alloc (.cells #[.int .i64 1, .int .i64 t, .slice A3 bs.length c3, .bool false] 101))) := Lib.hid (HF3.out.alloc _); have HR4 := Lib.hid (rd_new w3 [Value.int .i64 1, .int .i64 t, .slice A3 bs.length c3, .bool false] 101); have HO4 : Hid (∀ u ∈ [Value.int .i64 1, Value.int .i64 t, Value.slice A3 bs.length c3, Value.bool false], u.oneCell' = true) := Lib.hid (by intro u hu; simp only [List.mem_cons, List.not_mem_nil, or_false] at hu; rcases hu with rfl | rfl | rfl | rfl <;> rfl); have HO3 : Hid (∀ p ∈ l ++ [(⟨1, t, .slice A3 bs.length c3, bs⟩ : Pk)], Sl (w3.alloc (.cells #[.int .i64 1, .int .i64 t, .slice A3 bs.length c3, .bool false] 101)) w0.heap.size 5 1 p.v p.bs.length (p.bs.map bv)) := Lib.hid (by intro p hp; rcases List.mem_append.1 hp with hp | hp; exact (((HN.out.own p hp).fresh ((((Frm.refl _ W).drew).drew).trans f3)).alloc _); rw [List.mem_singleton] at hp; subst hp; exact (hs3.less (by have := HN.out.frm.size; simpa using this)).alloc _); clear hs3 f3 hb3)))
  all_goals
    go_wp2_with fail
    go_ret
    exact ⟨by simp, _, HP.out.1⟩
set_option maxHeartbeats 1000000 in
theorem has_any (w0 w : World) (b m : Nat) (p : Pk) (r : List Pk) (h : IsP w0 b m (p :: r) w) (hl : (p :: r).length ≤ 200) : Calls Try.prog 71 #[.pointer (some ⟨b, 0, none⟩), .int .i64 0] w fun e w' => e = .returned (.bool true) ∧ w' = w := by
  obtain ⟨v, hb, hs⟩ := h.ex
  obtain ⟨A, cap, rfl, hcl, hcm, _⟩ := hs.shape
  rw [List.length_cons] at hl hb
  have c0 : w.cell? ⟨b, 0, none⟩ = some (.slice A (r.length + 1) cap) := hb.cell 0
  have HW : Hid (Calls Try.prog 73 #[.int .i64 0, .int .i64 0, .int .i64 (r.length : Int)] w fun e w' => e = .returned (.bool true) ∧ w' = w) := Lib.hid (by
    have := within_any 0 0 (r.length : Int) w
    simpa using this)
  have hs1 : IntKind.i64.wrap (((r.length + 1 : Nat) : Int) - 1) = (r.length : Int) := by rw [show ((r.length + 1 : Nat) : Int) - 1 = (r.length : Int) by omega]; exact IntWalk.i64_in _ (by omega)
  obtain ⟨k, hk⟩ : ∃ k, k = r.length + 1 := ⟨_, rfl⟩
  rw [← hk] at c0 hs1
  clear h hb hs hk
  go_enter Try.func71, Try.ntmps71
  go_wp2_with fail
  refine HW.out.mono ?_
  rintro e w' ⟨rfl, rfl⟩
  go_wp2_with fail
  go_ret
  exact ⟨rfl, rfl⟩
/-- what the first one is, where it lies -/
theorem IsP.head {w0 w : World} {b m : Nat} {p : Pk} {r : List Pk} (h : IsP w0 b m (p :: r) w) : ∃ g o cap, Blk w b 97 #[.slice (some ⟨g, o, none⟩) (r.length + 1) cap, .map (some m)] ∧ Sl w w0.heap.size 101 4 (.slice (some ⟨g, o, none⟩) (r.length + 1) cap) (r.length + 1) ((p :: r).flatMap pcells) ∧
    w.cell? ⟨g, o, none⟩ = some (.int .i64 p.f) ∧ w.cell? ⟨g, o + 1, none⟩ = some (.int .i64 p.t) ∧ w.cell? ⟨g, o + 2, none⟩ = some p.v := by
  obtain ⟨v, hb, hs⟩ := h.ex
  obtain ⟨g, o, cap, rfl, _⟩ := hs.head (by simp)
  have hlen : ((p :: r).flatMap pcells).length = (r.length + 1) * 4 := by rw [pcells_len]; rfl
  exact ⟨g, o, cap, hb, hs, hs.cell (j := 0) (by omega), hs.cell (j := 1) (by omega), hs.cell (j := 2) (by omega)⟩
def CopyPost (w0 : World) (b m : Nat) (p : Pk) (r : List Pk) (w : World) (e : Ending) (w' : World) : Prop :=
  ∃ v, e = .returned (.tuple #[.agg #[.int .i64 p.f, .int .i64 p.t, v], .int .i64 0]) ∧ Sl w' w.heap.size 5 1 v p.bs.length (p.bs.map bv) ∧ Fresh w w'
set_option maxHeartbeats 4000000 in
theorem copy_any (w0 w : World) (b m : Nat) (p : Pk) (r : List Pk) (h : IsP w0 b m (p :: r) w) (hl : (p :: r).length ≤ 200) (hbl : p.bs.length ≤ 1000) :
    Calls Try.prog 26 #[.pointer (some ⟨b, 0, none⟩), .int .i64 0] w fun e w' => CopyPost w0 b m p r w e w' := by
  obtain ⟨W, hW⟩ : ∃ W, w.alloc (.cells #[.int .i64 0, .int .i64 0, .slice none 0 0] 45) = W := ⟨_, rfl⟩
  have FW : Fresh w W := by rw [← hW]; exact (Frm.refl _ w).alloc _
  have BP : Hid (Blk W w.heap.size 45 #[.int .i64 0, .int .i64 0, .slice none 0 0]) := Lib.hid (by rw [← hW]; exact Blk.new w _ _)
  have hP := h.fresh FW
  obtain ⟨g, o, cap, hb, hs, y0, y1, y2⟩ := hP.head
  have HO := Lib.hid (hP.own p (by simp))
  have HH := Lib.hid (has_any w0 W b m p r hP hl)
  have HFW := Lib.hid FW
  obtain ⟨pf, pt, pv, pb⟩ := p
  dsimp only at y0 y1 y2 hbl HO
  obtain ⟨AB, cb, rfl, hbc, hbm, _⟩ := HO.out.shape
  have HCO := Lib.hid (copied_any W pf pt AB cb pb HO.out.rd (by omega) hbc hbm)
  have c0 : W.cell? ⟨b, 0, none⟩ = some (.slice (some ⟨g, o, none⟩) (r.length + 1) cap) := hb.cell 0
  clear h hP hb hs FW
  go_enter Try.func26, Try.ntmps26
  go_wp2_with fail
  clear hW
  refine HH.out.mono ?_
  rintro e w1 ⟨rfl, rfl⟩
  go_wp2_with fail
  refine HCO.out.mono ?_
  rintro e w3 ⟨v3, rfl, hs3, f3⟩
  obtain ⟨A3, c3, rfl, _⟩ := hs3.shape
  have b3 := BP.out.frm f3 (fun f => f)
  have x0 : w3.cell? ⟨w.heap.size, 0, none⟩ = some (.int .i64 0) := b3.cell 0
  have x1 : w3.cell? ⟨w.heap.size, 1, none⟩ = some (.int .i64 0) := b3.cell 1
  have x2 : w3.cell? ⟨w.heap.size, 2, none⟩ = some (.slice none 0 0) := b3.cell 2
  have z0 : w3.frozen? ⟨w.heap.size, 0, none⟩ = false := b3.frozen 0
  have z1 : w3.frozen? ⟨w.heap.size, 1, none⟩ = false := b3.frozen 1
  have z2 : w3.frozen? ⟨w.heap.size, 2, none⟩ = false := b3.frozen 2
  have HB3 := Lib.hid b3
  have HS3 := Lib.hid hs3
  have HF3 := Lib.hid (HFW.out.trans f3)
  have hlt : w.heap.size < w1.heap.size := BP.out.lt
  clear b3 hs3 f3
  go_wp2_with fail
  have hb2 := ((HB3.out.set 0 (.int .i64 pf)).set 1 (.int .i64 pt)).set 2 (.slice A3 pb.length c3)
  have F4 : Frm (fun k => k = w.heap.size) w3 (((w3.setCell ⟨w.heap.size, 0, none⟩ (.int .i64 pf)).setCell ⟨w.heap.size, 1, none⟩ (.int .i64 pt)).setCell ⟨w.heap.size, 2, none⟩ (.slice A3 pb.length c3)) :=
    (((Frm.refl (fun k => k = w.heap.size) w3).setCell (p := ⟨w.heap.size, 0, none⟩) (fun _ => rfl) _).setCell (p := ⟨w.heap.size, 1, none⟩) (fun _ => rfl) _).setCell (p := ⟨w.heap.size, 2, none⟩) (fun _ => rfl) _
  have hld := run_loadVar_row (P := Try.prog) _ (w.heap.size) 45 45 #[.int .i64 pf, .int .i64 pt, .slice A3 pb.length c3] (0, 0) _ hb2 Try.underlying45 rfl (by kernel_rfl)
  refine bodyPost_ret (v := .tuple #[.agg #[.int .i64 pf, .int .i64 pt, .slice A3 pb.length c3], .int .i64 0]) ?_ rfl ⟨_, rfl, ?_, ?_⟩
  · rw [results_cell_tmp Try.results26]
    show (((asAddr (.pointer (some ⟨w.heap.size, 0, none⟩))).run Try.prog _).andThen fun a w₁ => ((loadVar 45 a).run Try.prog w₁).andThen fun v w₂ => Result.ok (Value.tuple #[v, Value.int .i64 0]) w₂) = _
    simp only [asAddr, Sem.run_pure, Result.andThen_ok, hld]
  · exact (HS3.out.frm F4 (fun k hk e => by have := (HS3.out.lt k hk).1; omega)).less (by omega)
  · exact HF3.out.trans' F4 (fun k hk e => by omega)
end Go.Proofs.Ytlceembcehokoaa

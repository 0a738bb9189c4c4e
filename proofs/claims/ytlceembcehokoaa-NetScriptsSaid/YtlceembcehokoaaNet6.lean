/- A new net; a packet copied; sent. -/
import Derived.Test.YtlceembcehokoaaNet5
import Derived.Deep.RegionLaw
import Derived.Carry
import Derived.Laws.Rows
namespace Go.Proofs.Ytlceembcehokoaa
open Go.RowKit
set_option maxRecDepth 100000

theorem info_pk : (Try.prog.info? 101).map (fun i => (i.zero, i.size, i.bytes)) = some (some (.agg #[.int .i64 0, .int .i64 0, .slice none 0 0, .bool false]), 4, 48) := by kernel_rfl
theorem types_size : ∃ m, Try.prog.types.size = m + 1 := ⟨165, by kernel_rfl⟩
theorem zero_bool (w : World) : (zeroValue 4).run Try.prog w = .ok (.bool false) w := by kernel_rfl
/-- a net without cuts, so many on their way -/
structure IsN (w0 : World) (b m n : Nat) (w : World) : Prop where
  ex : ∃ v xs, Blk w b 97 #[v, .map (some m)] ∧ Sl w w0.heap.size 101 4 v n xs
  map : w.ownsMap Try.prog 98 (plainElem (H := Unit) Try.prog 4) m 0 (.map [])
  low : w0.heap.size ≤ b
  frm : Fresh w0 w
theorem IsN.fresh {w0 w w' : World} {b m n : Nat} (h : IsN w0 b m n w) (F : Fresh w w') : IsN w0 b m n w' := by
  obtain ⟨v, xs, h1, h2⟩ := h.ex
  exact ⟨⟨v, xs, h1.frm F (fun f => f), h2.fresh F⟩, OM.frm h.map F (fun f => f), h.low, h.frm.trans F⟩
def NewPost (w0 w : World) (e : Ending) (w' : World) : Prop := ∃ b m, e = .returned (.pointer (some ⟨b, 0, none⟩)) ∧ IsN w0 b m 0 w'
set_option maxHeartbeats 1000000 in
theorem new_any (w0 w : World) (F : Fresh w0 w) : Calls Try.prog 17 #[] w fun e w' => NewPost w0 w e w' := by
  have hmm := @run_makeMap Try.prog
  have HF := Lib.hid F
  have HB := Lib.hid (Blk.new (w.alloc (.map #[] 0)) 97 #[.slice none 0 0, .map (some w.heap.size)])
  have HM : Hid (IsN w0 (w.alloc (.map #[] 0)).heap.size w.heap.size 0 ((w.alloc (.map #[] 0)).alloc (.cells #[.slice none 0 0, .map (some w.heap.size)] 97))) :=
    Lib.hid ⟨⟨_, _, HB.out, Sl.nil _ _ _ _⟩, OM.frm (World.ownsMap_made w _ _ _) ((Frm.refl (fun _ => False) _).alloc _) (fun f => f), by have := F.size; rw [World.size_alloc]; omega, (F.alloc _).alloc _⟩
  clear F
  go_enter Try.func17, Try.ntmps17
  go_wp2_with fail
  go_ret
  exact ⟨_, _, by simp, HM.out⟩
set_option maxHeartbeats 2000000 in
theorem copied_any (w : World) (f t : Int) (A : Option Addr) (cap : Nat) (bs : List UInt8) (hr : Rd w w.heap.size A (bs.map bv)) (hl : bs.length ≤ 140737488355328) (hc : bs.length ≤ cap) (hm : cap ≤ maxLen) :
    Calls Try.prog 68 #[.agg #[.int .i64 f, .int .i64 t, .slice A bs.length cap]] w fun e w' => ∃ v, e = .returned (.agg #[.int .i64 f, .int .i64 t, v]) ∧ Sl w' w.heap.size 5 1 v bs.length (bs.map bv) ∧ Fresh w w' := by
  have HR := Lib.hid hr
  obtain ⟨W2, hW2⟩ : ∃ W2, (w.alloc (.cells #[.int .i64 f, .int .i64 t, .slice A bs.length cap] 45)).alloc (.cells #[.int .i64 0, .int .i64 0, .slice none 0 0] 45) = W2 := ⟨_, rfl⟩
  have HF2 : Hid (Fresh w W2) := Lib.hid (by rw [← hW2]; exact ((Frm.refl _ w).alloc _).alloc _)
  have B1 : Hid (Blk W2 w.heap.size 45 #[.int .i64 f, .int .i64 t, .slice A bs.length cap]) := Lib.hid (by rw [← hW2]; exact (Blk.new w _ _).alloc _)
  have B2 : Hid (Blk W2 (w.heap.size + 1) 45 #[.int .i64 0, .int .i64 0, .slice none 0 0]) := Lib.hid (by
    rw [← hW2]
    have := Blk.new (w.alloc (.cells #[.int .i64 f, .int .i64 t, .slice A bs.length cap] 45)) 45 #[.int .i64 0, .int .i64 0, .slice none 0 0]
    rwa [World.size_alloc] at this)
  have y2 : W2.cell? ⟨w.heap.size, 2, none⟩ = some (.slice A bs.length cap) := B1.out.cell 2
  clear hr
  go_enter Try.func68, Try.ntmps68
  go_wp2_with fail
  clear hW2 y2
  refine (clone_any W2 W2.heap.size A cap bs ((HR.out.fresh (Nat.le_refl _) HF2.out).more HF2.out.size) (Nat.le_refl _) hl hc hm).mono ?_
  rintro e w3 ⟨v, rfl, hs, f3⟩
  obtain ⟨A3, c3, rfl, _⟩ := hs.shape
  have HS := Lib.hid hs
  have HF3 := Lib.hid f3
  have b1 := B1.out.frm f3 (fun f => f)
  have b2 := B2.out.frm f3 (fun f => f)
  have HB2 := Lib.hid b2
  have a0 : w3.cell? ⟨w.heap.size, 0, none⟩ = some (.int .i64 f) := b1.cell 0
  have a1 : w3.cell? ⟨w.heap.size, 1, none⟩ = some (.int .i64 t) := b1.cell 1
  have a2 : w3.cell? ⟨w.heap.size, 2, none⟩ = some (.slice A bs.length cap) := b1.cell 2
  have z2 : w3.frozen? ⟨w.heap.size, 2, none⟩ = false := b1.frozen 2
  have c0 : w3.cell? ⟨w.heap.size + 1, 0, none⟩ = some (.int .i64 0) := b2.cell 0
  have c1 : w3.cell? ⟨w.heap.size + 1, 1, none⟩ = some (.int .i64 0) := b2.cell 1
  have c2 : w3.cell? ⟨w.heap.size + 1, 2, none⟩ = some (.slice none 0 0) := b2.cell 2
  have x0 : w3.frozen? ⟨w.heap.size + 1, 0, none⟩ = false := b2.frozen 0
  have x1 : w3.frozen? ⟨w.heap.size + 1, 1, none⟩ = false := b2.frozen 1
  have x2 : w3.frozen? ⟨w.heap.size + 1, 2, none⟩ = false := b2.frozen 2
  clear hs f3 b1 b2
  go_wp2_with fail
  have hb2 := (((HB2.out.far (p := ⟨w.heap.size, 2, none⟩) (by simp) (.slice A3 bs.length c3)).set 0 (.int .i64 f)).set 1 (.int .i64 t)).set 2 (.slice A3 bs.length c3)
  have F4 : Frm (fun k => k = w.heap.size ∨ k = w.heap.size + 1) w3 ((((w3.setCell ⟨w.heap.size, 2, none⟩ (.slice A3 bs.length c3)).setCell ⟨w.heap.size + 1, 0, none⟩ (.int .i64 f)).setCell ⟨w.heap.size + 1, 1, none⟩ (.int .i64 t)).setCell ⟨w.heap.size + 1, 2, none⟩ (.slice A3 bs.length c3)) :=
    ((((Frm.refl (fun k => k = w.heap.size ∨ k = w.heap.size + 1) w3).setCell (p := ⟨w.heap.size, 2, none⟩) (fun _ => .inl rfl) _).setCell (p := ⟨w.heap.size + 1, 0, none⟩) (fun _ => .inr rfl) _).setCell (p := ⟨w.heap.size + 1, 1, none⟩) (fun _ => .inr rfl) _).setCell (p := ⟨w.heap.size + 1, 2, none⟩) (fun _ => .inr rfl) _
  have hlt := B2.out.lt
  refine bodyPost_ret (v := .agg #[.int .i64 f, .int .i64 t, .slice A3 bs.length c3]) (results_cell_row Try.results68 _ _ (w.heap.size + 1) 45 #[.int .i64 f, .int .i64 t, .slice A3 bs.length c3] (0, 0) _ rfl hb2 Try.underlying45 rfl (by kernel_rfl)) rfl ⟨_, rfl, ?_, ?_⟩
  · exact (HS.out.frm F4 (fun k hk e => by have := (HS.out.lt k hk).1; omega)).less (by omega)
  · exact (HF2.out.trans HF3.out).trans' F4 (fun k hk e => by omega)
theorem isN_push {w0 w4 w5 : World} {b m n : Nat} {v v' : Value} {xs ys : List Value} (hb : Blk w4 b 97 #[v, .map (some m)]) (hs : Sl w4 w0.heap.size 101 4 v n xs)
    (hm : w4.ownsMap Try.prog 98 (plainElem (H := Unit) Try.prog 4) m 0 (.map [])) (low : w0.heap.size ≤ b) (F : Fresh w0 w4) (hf : Frm (fun k => v.ownBlock = some k) w4 w5) (hs5 : Sl w5 w0.heap.size 101 4 v' (n + 1) ys) :
    IsN w0 b m (n + 1) (w5.setCell ⟨b, 0, none⟩ v') ∧ w5.cell? ⟨b, 0, none⟩ = some v ∧ w5.frozen? ⟨b, 0, none⟩ = false := by
  have hb5 : Blk w5 b 97 #[v, .map (some m)] := hb.frm hf (fun e => hs.apart hb (by decide) e)
  have hm5 := OM.frm hm hf (fun e => OM.not_sl hm hs e)
  have F2 : Frm (fun k => k = b) w5 (w5.setCell ⟨b, 0, none⟩ v') := (Frm.refl (fun k => k = b) w5).setCell (p := ⟨b, 0, none⟩) (fun _ => rfl) v'
  have hb6 := hb5.set 0 v'
  refine ⟨⟨⟨v', ys, by simpa using hb6, hs5.frm F2 (fun k hk e => by subst e; exact hs5.apart hb5 (by decide) hk)⟩, OM.frm hm5 F2 (OM.not_cells hm5 hb5), low, (F.trans' hf (fun k hk e => by have := (hs.lt k e).1; omega)).trans' F2 (fun k hk e => by omega)⟩, hb5.cell 0, hb5.frozen 0⟩
/-- the packet of NetFull -/
def SendPost (w0 : World) (b m n : Nat) (e : Ending) (w' : World) : Prop :=
  e = .returned (.bool (decide (n < 4096))) ∧ IsN w0 b m (if n < 4096 then n + 1 else n) w'
set_option maxHeartbeats 8000000 in
theorem send_any (w0 w : World) (b m n : Nat) (h : IsN w0 b m n w) (hn : n ≤ 4096) :
    Calls Try.prog 18 #[.pointer (some ⟨b, 0, none⟩), .agg #[.int .i64 1, .int .i64 2, .slice none 0 0]] w fun e w' => SendPost w0 b m n e w' := by
  obtain ⟨i0, hi, hz0, hz1, hz2⟩ := info_parts info_pk
  obtain ⟨W, hW⟩ : ∃ W, w.alloc (.cells #[.int .i64 1, .int .i64 2, .slice none 0 0] 45) = W := ⟨_, rfl⟩
  have FW : Fresh w W := by rw [← hW]; exact (Frm.refl _ w).alloc _
  have BP : Hid (Blk W w.heap.size 45 #[.int .i64 1, .int .i64 2, .slice none 0 0]) := Lib.hid (by rw [← hW]; exact Blk.new w _ _)
  have HN := Lib.hid (h.fresh FW)
  obtain ⟨v, xs, hb, hs⟩ := HN.out.ex
  obtain ⟨A, cap, rfl, hcl, hcm, _⟩ := hs.shape
  have HB := Lib.hid hb
  have HS := Lib.hid hs
  have HNO : Hid (∀ (n : Int) (w : World), 1 ≤ n → n ≤ 15 → Calls Try.prog 67 #[.int .i64 n] w fun e w' => e = .returned (.bool true) ∧ w' = w) := Lib.hid fun n w h1 h2 => by
    have := node_any n w
    simpa [h1, h2] using this
  have SS : Hid (W.drew.cell? ⟨w.heap.size, 0, none⟩ = some (.int .i64 1) ∧ W.drew.cell? ⟨w.heap.size, 1, none⟩ = some (.int .i64 2) ∧ W.drew.cell? ⟨w.heap.size, 2, none⟩ = some (.slice none 0 0) ∧ W.drew.cell? ⟨b, 0, none⟩ = some (.slice A n cap) ∧ W.drew.cell? ⟨b, 1, none⟩ = some (.map (some m))) :=
    Lib.hid ⟨BP.out.cell 0, BP.out.cell 1, BP.out.cell 2, HB.out.cell 0, HB.out.cell 1⟩
  have hask : (Instr.lookup 94 (.map (some m)) (.agg #[.int .i64 1, .int .i64 2]) false).run Try.prog W.drew = .ok (.bool false) W.drew :=
    OM.ask (w := W.drew) (b := m) (n := 0) HN.out.map.drew (Maps.Keyed.of_law pair_key.law) Try.underlying94 Try.underlying4 (zero_bool W.drew) (WideMaps.keyOf_pair (a := 1) (b := 2) pair_key Try.underlying3 types_size (by decide) (by decide)) (r := false) rfl
  have hn0 : (0 : Int) ≤ (n : Int) := by omega
  clear h hb hs FW
  by_cases hlt : n < 4096
  · have hge : ¬ (4096 : Int) ≤ (n : Int) := by omega
    go_enter Try.func18, Try.ntmps18
    go_wp2_with fail
    clear hW
    go_region_held3 (fun w' => w'.cell? ⟨w.heap.size, 0, none⟩ = some (.int .i64 1) ∧ w'.cell? ⟨w.heap.size, 1, none⟩ = some (.int .i64 2) ∧ w'.cell? ⟨w.heap.size, 2, none⟩ = some (.slice none 0 0) ∧ w'.cell? ⟨b, 0, none⟩ = some (.slice A n cap) ∧ w'.cell? ⟨b, 1, none⟩ = some (.map (some m)))
      (exact SS.out)
      (first
        | (go_at_call 67; refine (HNO.out _ _ (by omega) (by omega)).mono ?_; rintro e w' ⟨rfl, rfl⟩))
    have SD := SS.out
    obtain ⟨d0, d1, d2, d3, d4⟩ := SD
    have d0 : W.drew.drew.cell? ⟨w.heap.size, 0, none⟩ = some (.int .i64 1) := d0
    have d1 : W.drew.drew.cell? ⟨w.heap.size, 1, none⟩ = some (.int .i64 2) := d1
    have d2 : W.drew.drew.cell? ⟨w.heap.size, 2, none⟩ = some (.slice none 0 0) := d2
    have d3 : W.drew.drew.cell? ⟨b, 0, none⟩ = some (.slice A n cap) := d3
    have HCO := Lib.hid (copied_any W.drew.drew 1 2 none 0 [] (Rd.nil _ _ _) (by simp) (by simp) (by simp [maxLen]))
    go_wp2_with fail
    go_region_law
      ((first
        | (refine step_append_sl (by rfl) (.tmp 45) (.tmp 49) 95 (by rfl) w0.heap.size 101 i0 _ 4 48 Try.underlying95 hi hz0 hz1 hz2 rfl (by omega) (.slice A n cap) n xs (by rfl) HS4.out _ (some ⟨w3.heap.size, 0, none⟩) 1 1 [.int .i64 1, .int .i64 2, .slice A3 0 c3, .bool false] (by rfl) (by rfl) HR4.out HO4.out (by unfold maxLen; omega) (by omega) (by have := HF4.out.size; omega) ?_; intro v5 w5 hs5 hf5 _; have HP := Lib.hid (isN_push HB4.out HS4.out HM4.out HN.out.low HF4.out hf5 hs5); obtain ⟨A5, cp5, rfl, _⟩ := hs5.shape; have c5 := HP.out.2.1; have z5 := HP.out.2.2; clear hs5 hf5)
        | (go_simp; go_at_call 68; show Calls _ _ #[.agg #[.int .i64 1, .int .i64 2, .slice none 0 0]] W.drew.drew _; refine HCO.out.mono ?_; rintro e w3 ⟨v3, rfl, hs3, f3⟩; obtain ⟨A3, c3, rfl, _⟩ := hs3.shape; have HF3 := Lib.hid (HN.out.frm.trans ((((Frm.refl _ W).drew).drew).trans f3)); have hb3 := HB.out.frm ((((Frm.refl (fun _ => False) W).drew).drew).trans f3) (fun f => f); have e3 : w3.cell? ⟨b, 0, none⟩ = some (.slice A n cap) := hb3.cell 0; have e4 : ∀ o, (w3.alloc o).cell? ⟨b, 0, none⟩ = some (.slice A n cap) := (fun o => (hb3.alloc o).cell 0); have HB4 : Hid (Blk (w3.alloc (.cells #[.int .i64 1, .int .i64 2, .slice A3 0 c3, .bool false] 101)) b 97 #[.slice A n cap, .map (some m)]) := Lib.hid (hb3.alloc _); have HS4 : Hid (Sl (w3.alloc (.cells #[.int .i64 1, .int .i64 2, .slice A3 0 c3, .bool false] 101)) w0.heap.size 101 4 (.slice A n cap) n xs) := Lib.hid ((HS.out.fresh ((((Frm.refl _ W).drew).drew).trans f3)).alloc _); have HM4 : Hid ((w3.alloc (.cells #[.int .i64 1, .int .i64 2, .slice A3 0 c3, .bool false] 101)).ownsMap Try.prog 98 (plainElem (H := Unit) Try.prog 4) m 0 (.map [])) := Lib.hid (World.ownsMap.alloc (OM.frm HN.out.map ((((Frm.refl (fun _ => False) W).drew).drew).trans f3) (fun f => f)) _); have HF4 : Hid (Fresh w0 (w3.alloc (.cells #[.int .i64 1, .int .i64 2, .slice A3 0 c3, .bool false] 101))) := Lib.hid (HF3.out.alloc _); have HR4 := Lib.hid (rd_new w3 [Value.int .i64 1, .int .i64 2, .slice A3 0 c3, .bool false] 101); have HO4 : Hid (∀ u ∈ [Value.int .i64 1, Value.int .i64 2, Value.slice A3 0 c3, Value.bool false], u.oneCell' = true) := Lib.hid (by intro u hu; simp only [List.mem_cons, List.not_mem_nil, or_false] at hu; rcases hu with rfl | rfl | rfl | rfl <;> rfl); clear hs3 f3 hb3)))
    all_goals
      go_wp2_with fail
      go_ret
      refine ⟨by simp [hlt], ?_⟩
      rw [if_pos hlt]
      exact HP.out.1
  · have hge : (4096 : Int) ≤ (n : Int) := by omega
    go_enter Try.func18, Try.ntmps18
    go_wp2_with fail
    clear hW
    go_region_held3 (fun w' => w'.cell? ⟨w.heap.size, 0, none⟩ = some (.int .i64 1) ∧ w'.cell? ⟨w.heap.size, 1, none⟩ = some (.int .i64 2) ∧ w'.cell? ⟨w.heap.size, 2, none⟩ = some (.slice none 0 0) ∧ w'.cell? ⟨b, 0, none⟩ = some (.slice A n cap) ∧ w'.cell? ⟨b, 1, none⟩ = some (.map (some m)))
      (exact SS.out)
      (first
        | (go_at_call 67; refine (HNO.out _ _ (by omega) (by omega)).mono ?_; rintro e w' ⟨rfl, rfl⟩))
    go_wp2_with fail
    go_ret
    refine ⟨by simp [hlt], ?_⟩
    rw [if_neg hlt]
    exact HN.out.fresh ((Frm.refl _ W).drew)
set_option maxHeartbeats 1000000 in
theorem len_any (w0 w : World) (b m n : Nat) (h : IsN w0 b m n w) : Calls Try.prog 19 #[.pointer (some ⟨b, 0, none⟩)] w fun e w' => e = .returned (.int .i64 (n : Int)) ∧ w' = w := by
  obtain ⟨v, xs, hb, hs⟩ := h.ex
  obtain ⟨A, cap, rfl, hcl, hcm, _⟩ := hs.shape
  have c0 : w.cell? ⟨b, 0, none⟩ = some (.slice A n cap) := hb.cell 0
  clear h hb hs
  go_enter Try.func19, Try.ntmps19
  go_wp2_with fail
  go_ret
  exact ⟨rfl, rfl⟩
end Go.Proofs.Ytlceembcehokoaa

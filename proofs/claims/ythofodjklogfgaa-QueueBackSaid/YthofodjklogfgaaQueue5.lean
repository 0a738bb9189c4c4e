/- slices.Insert, of one more. -/
import Derived.Test.YthofodjklogfgaaQueue4
import Derived.Test.YthofodjklogfgaaSlots
import Derived.Deep.RegionLaw
namespace Go.Proofs.Ythofodjklogfgaa
open Go.RowKit QueueM
attribute [local go_sem ↓] Go.wp_at_zero Go.wp_at_succ

theorem info_w : (Try.prog.info? 62).map (fun i => (i.zero, i.size, i.bytes)) = some (some (.agg #[.int .i64 0, .int .i64 0, .int .i64 0, .int .i64 0, .float .f64 0]), 5, 40) := by kernel_rfl
theorem size_w : (Try.prog.info? 62).map (·.size) = some 5 := by kernel_rfl
theorem sizeOf_w (w : World) : (Go.sizeOf 62).run Try.prog w = .ok 5 w := by kernel_rfl
def InsPost (w : World) (B : Nat) (v : Value) (n : Nat) (ys : List Value) (e : Ending) (w' : World) : Prop :=
  ∃ v', e = .returned v' ∧ Sl w' B 62 5 v' n ys ∧ Frm (fun k => v.ownBlock = some k) w w' ∧ (v'.ownBlock = v.ownBlock ∨ ∃ k, v'.ownBlock = some k ∧ w.heap.size ≤ k)
set_option maxHeartbeats 4000000 in
set_option maxRecDepth 100000 in
/-- at the end -/
theorem insert_end (w : World) (B : Nat) (v : Value) (n : Nat) (xs : List Value) (hs : Sl w B 62 5 v n xs) (hB : B ≤ w.heap.size) (hn : n ≤ 1000) (gx : Nat) (cx : List Value) (hx : Blk w gx 62 cx.toArray) (hxl : cx.length = 5) (h1x : ∀ u ∈ cx, u.oneCell' = true) :
    Calls Try.prog 27 #[v, .int .i64 (n : Int), .slice (some ⟨gx, 0, none⟩) 1 1] w fun e w' => InsPost w B v (n + 1) (xs ++ cx) e w' := by
  obtain ⟨i0, hi, hz0, hz1, hz2⟩ := info_parts info_w
  have HS := Lib.hid hs
  have R : Rd w w.heap.size (some ⟨gx, 0, none⟩) cx := fun _ => ⟨gx, 0, rfl, hx.lt, fun j u hu => by rw [Nat.zero_add, hx.cell]; simpa using hu⟩
  have HR := Lib.hid R
  have HX1 := Lib.hid h1x
  have HXL := Lib.hid hxl
  obtain ⟨A, cap, rfl, hnc, hcm, hnone⟩ := hs.shape
  have HE : Hid (∀ v' w', Sl w' B 62 5 v' (n + 1) (xs ++ cx) → Frm (fun k => (Value.slice A n cap).ownBlock = some k) w w' → (v'.ownBlock = (Value.slice A n cap).ownBlock ∨ v'.ownBlock = some w.heap.size) → InsPost w B (.slice A n cap) (n + 1) (xs ++ cx) (.returned v') w') := Lib.hid fun v' w' a b c =>
    ⟨v', rfl, a, b, c.elim .inl (fun h => .inr ⟨_, h, Nat.le_refl _⟩)⟩
  unfold maxLen at hcm
  clear R hx hs h1x hxl
  rcases A with _ | ⟨g, o, sp⟩
  · obtain ⟨rfl, rfl⟩ := hnone rfl
    go_enter Try.func27, Try.ntmps27
    go_wp2_with (at_builtin; refine wpList_append_sl _ rfl (.tmp 23) (.tmp 24) _ rfl B 62 i0 _ 5 40 Try.underlying58 hi hz0 hz1 hz2 rfl (by omega) _ _ _ rfl HS.out _ _ 1 _ _ rfl (by rw [HXL.out]) HR.out HX1.out (by unfold maxLen; omega) (by omega) hB ?_; intro v1 w1 hs1 hf1 ha1)
    have HF := Lib.hid (HE.out _ _ hs1 hf1 ha1)
    clear hs1 hf1 ha1
    go_wp2_with fail
    go_ret
    exact HF.out
  · clear hnone
    obtain rfl : sp = none := by
      rcases HS.out.2 with ⟨h, _⟩ | ⟨g', o', c', cur, h, _⟩
      · cases h
      · injection h with h _ _; injection h with h; injection h
    by_cases hc : cap = n
    · go_enter Try.func27, Try.ntmps27
      go_wp2_with (at_builtin; refine wpList_append_sl _ rfl (.tmp 23) (.tmp 24) _ rfl B 62 i0 _ 5 40 Try.underlying58 hi hz0 hz1 hz2 rfl (by omega) _ _ _ rfl HS.out _ _ 1 _ _ rfl (by rw [HXL.out]) HR.out HX1.out (by unfold maxLen; omega) (by omega) hB ?_; intro v1 w1 hs1 hf1 ha1)
      have HF := Lib.hid (HE.out _ _ hs1 hf1 ha1)
      clear hs1 hf1 ha1
      go_wp2_with fail
      go_ret
      exact HF.out
    · go_enter Try.func27, Try.ntmps27
      go_wp2_with (at_builtin; refine wpList_append_sl _ rfl (.tmp 23) (.tmp 24) _ rfl B 62 i0 _ 5 40 Try.underlying58 hi hz0 hz1 hz2 rfl (by omega) _ _ _ rfl HS.out _ _ 1 _ _ rfl (by rw [HXL.out]) HR.out HX1.out (by unfold maxLen; omega) (by omega) hB ?_; intro v1 w1 hs1 hf1 ha1)
      have HF := Lib.hid (HE.out _ _ hs1 hf1 ha1)
      clear hs1 hf1 ha1
      go_wp2_with fail
      go_ret
      exact HF.out
end Go.Proofs.Ythofodjklogfgaa

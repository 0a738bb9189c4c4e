/- What field.Text answers. -/
import Derived.Test.YtlceembcehokoaaNumP
namespace Go.Proofs.Ytlceembcehokoaa
open Go.RowKit

set_option maxHeartbeats 400000 in
theorem text_any (A : Option Addr) (cap : Nat) (bs : List UInt8) (w : World) (hb : Rd w w.heap.size A (bs.map bv)) (hl : bs.length ≤ 140737488351232) :
    Calls Try.prog 41 #[.slice A bs.length cap] w fun e w' => ∃ v, e = .returned v ∧ Sl w' w.heap.size 5 1 v (FieldM.text bs).length ((FieldM.text bs).map bv) ∧ Fresh w w' := by
  obtain ⟨i0, hi, hz0, hz1, hz2⟩ := info_parts info_u8
  have hw := FieldM.wid_le (n := bs.length) (by omega)
  have hnl := FieldM.num_length bs.length
  have HNL := Lib.hid hnl
  have K := Lib.hid (fun w => number_any bs.length (by omega) w)
  clear hnl
  go_enter Try.func41, Try.ntmps41
  go_wp2_with fail
  refine (K.out _).mono ?_
  rintro e w1 ⟨v1, rfl, hs1, hf1⟩
  have hb1 := hb.fresh (Nat.le_refl _) hf1
  have hsz := hf1.size
  go_wp2_with (at_builtin; refine wpList_append_sl _ rfl (.tmp 6) (.tmp 7) _ rfl w.heap.size 5 i0 _ 1 1 Try.underlying26 hi hz0 hz1 hz2 rfl (by omega) _ _ _ rfl hs1 _ _ _ _ _ rfl (by simp) hb1 (bv_one _) ?c2 ?c3 hsz ?_)
  case c2 => rw [HNL.out]; unfold maxLen; omega
  case c3 => rw [HNL.out]; omega
  intro v2 w2 hs2 hf2 _
  have hs3 : Sl w2 w.heap.size 5 1 v2 (FieldM.text bs).length ((FieldM.text bs).map bv) := by
    rw [FieldM.text, List.length_append, List.map_append]
    exact hs2
  have hf3 : Fresh w w2 := hf1.trans' hf2 (fun i hi hk => by have := hs1.lt i hk; omega)
  clear hs2 hf2
  go_wp2
  go_ret
  exact ⟨_, rfl, hs3, hf3⟩
end Go.Proofs.Ytlceembcehokoaa

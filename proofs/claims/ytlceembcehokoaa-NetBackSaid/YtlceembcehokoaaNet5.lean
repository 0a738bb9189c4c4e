/- One is awake; a new net. -/
import Derived.Test.YtlceembcehokoaaNet4
import Derived.Test.YtlceembcehokoaaMaps
import Derived.WideKeyPair
namespace Go.Proofs.Ytlceembcehokoaa
open Go.RowKit
set_option maxRecDepth 100000

set_option maxHeartbeats 4000000 in
theorem awake_any (w : World) : Calls Try.prog 10 #[] w fun e w' => e = .returned (.bool true) ∧ Fresh w w' := by
  have HE := Lib.hid (encodeBeat_any w)
  unfold beat at HE
  go_enter Try.func10, Try.ntmps10
  go_wp2_with fail
  refine HE.out.mono ?_
  rintro e w1 ⟨v, rfl, hs, f1⟩
  rw [beat_len] at hs
  obtain ⟨A, cap, rfl, hc, hm, _⟩ := hs.shape
  have HD := Lib.hid (decodeBeat_any w1 A cap hs.rd hc hm)
  unfold beat at HD
  have HF1 := Lib.hid f1
  clear hs f1 HE
  go_wp2_with fail
  refine HD.out.mono ?_
  rintro e w2 ⟨rfl, f2⟩
  have HF2 := Lib.hid (HF1.out.trans f2)
  clear f2 HD
  go_wp2_with fail
  go_ret
  exact ⟨by simp, HF2.out.alloc _⟩
theorem pair_key : WideMaps.ArrKey Try.prog 98 3 2 := ⟨Try.underlying98, by kernel_rfl, by kernel_rfl, by kernel_rfl⟩
end Go.Proofs.Ytlceembcehokoaa

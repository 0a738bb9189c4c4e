/- NetOrder: the statement, out of its walk: the arguments are opened, the law answers true and leaves all that was there as it was. -/
import Derived.Test.YtlceembcehokoaaOpen
import Derived.Test.YtlceembcehokoaaRows
import Derived.Test.YtlceembcehokoaaNet11
namespace Go.Proofs.Ytlceembcehokoaa.lawNetOrder
open Go.ChangeShapes Go.WideShapes Go.ChangeAt Go.RowKit
set_option linter.unusedVariables false
theorem own : ownKnob Try.prog.godebug = none := by kernel_rfl
theorem laidOut : laidOutB Try.prog = true := by kernel_rfl
theorem rcells5 : Try.prog.cellsOf 5 = 1 := by kernel_rfl
theorem rbytes5 : Try.prog.bytesOf 5 = 1 := by kernel_rfl
def rf5 : Int → List Value := fun n => [.int .u8 n]
def rq5 (_ : World) : Int → Prop := fun n => (Lit.int .u8 n).wf = true
theorem rd5 {H : Type} (enc : TypeId × Value → H) (W : World) : Reads enc Try.prog W 5 rf5 (rq5 W) := reads_int Try.underlying5
theorem rcells26 : Try.prog.cellsOf 26 = 1 := by kernel_rfl
theorem rbytes26 : Try.prog.bytesOf 26 = 24 := by kernel_rfl
def rf26 : (Option Addr × Nat × List Int) → List Value := fun s => [sv s]
def rq26 (W : World) : (Option Addr × Nat × List Int) → Prop := IsL W 1 rf5 (rq5 W)
theorem rd26 {H : Type} (enc : TypeId × Value → H) (W : World) : Reads enc Try.prog W 26 rf26 (rq26 W) := reads_slice Try.underlying26 rcells5 rbytes5 (by omega) (fun _ _ => by rfl) (rd5 enc W)
theorem rcells50 : Try.prog.cellsOf 50 = 1 := by kernel_rfl
theorem rbytes50 : Try.prog.bytesOf 50 = 24 := by kernel_rfl
def rf50 : (Option Addr × Nat × List (Option Addr × Nat × List Int)) → List Value := fun s => [sv s]
def rq50 (W : World) : (Option Addr × Nat × List (Option Addr × Nat × List Int)) → Prop := IsL W 24 rf26 (rq26 W)
theorem rd50 {H : Type} (enc : TypeId × Value → H) (W : World) : Reads enc Try.prog W 50 rf50 (rq50 W) := reads_slice Try.underlying50 rcells26 rbytes26 (by omega) (fun _ _ => by rfl) (rd26 enc W)
set_option maxRecDepth 100000 in
theorem lifted (os : Os) (started : os.Started) (H : Type) (enc : TypeId × Value → H) :
    ReturnsInHanded {} Try.checked os 8 .any (Rows.netOrderSpec.pre6 enc Try.prog Try.f8 Rows.netOrderRow.domain false) (Rows.netOrderSpec.post enc Try.prog Try.f8 false true false false) := by
  refine returnsInHanded_of_change_sized (C := Try.checked) own started (by kernel_rfl) Try.func8
    (ChangeSpec.witness6 (enc := enc) (C := Try.checked) false ⟨#[], #[.slice none 0 0], []⟩ 8 (by kernel_rfl) (by kernel_rfl) (by kernel_rfl) (by kernel_rfl)) ?_
  intro W base args ds gs before hval0 hW hcnd hsz0 _
  have hval : ∀ (j : Nat) t v, Try.f8.params[j]? = some t → args[j]? = some v → Value.okWide Try.prog W .any base t v := hval0
  have hsz : (DataW.weightsEach Try.prog (Try.f8.params.toList ++ Rows.netOrderSpec.plain.varTypes Try.prog) (ds ++ gs)).all (· ≤ reachBytes) = true := hsz0
  have hW' := hW
  obtain ⟨p, q, hA0, hV, rfl, hfz, hnd⟩ := hW
  have hA : DataW.TrodAll enc Try.prog W 0 (fun _ => true) true Try.f8.params.toList args.toList ds p := hA0
  rw [Try.params8] at hA hval hsz
  obtain ⟨v0, vs0, d0, ds0, p0, q0, hargs, rfl, rfl, h0, r0⟩ := trodAll_cons hA
  obtain ⟨rfl, rfl, rfl⟩ := trodAll_nil r0
  obtain rfl : args = #[v0] := by cases args; simp_all
  obtain ⟨rfl, rfl⟩ := trodVars_none hV
  have k0 := h0
  have lt0 : ∀ x ∈ p0, x.block < W.heap.size := by obtain ⟨m, hm⟩ := k0; exact DataW.trod_lt m _ _ _ hm
  obtain ⟨a0, e0, o0⟩ := open_slice_arg Try.underlying50 (rd50 enc W) (hval 0 50 v0 rfl rfl) h0 (fun n hn => by have := List.all_eq_true.1 hsz n (DataW.weights_mem_each (j := 0) (t := 50) rfl rfl n hn); simpa using this)
  subst e0
  refine (order_walk W a0 o0).mono fun e W' ⟨he, bel⟩ => ?_
  subst he
  exact ⟨_, rfl, _, _, _, [], _, [], hW', trodAll_mk1 (shut_bool Try.underlying4 _), (trodAll_cons_mk (Below.trod laidOut (by kernel_rfl) (of_decide_eq_true (by kernel_rfl)) k0 bel lt0) trodAll_mk0), rfl, bel.frame _, fun h => by cases h⟩
theorem over : Rows.netOrderRow.holds Try.pinned (OpenSpec.ofChange Rows.netOrderSpec) :=
  OpenClaim.holds_of_wide 8 Try.f8 rfl rfl rfl rfl rfl rfl rfl ⟨rfl, rfl, rfl, rfl, rfl⟩ rfl rfl rfl rfl rfl (by kernel_rfl) Try.func8 (by kernel_rfl)
    (of_decide_eq_true (by kernel_rfl)) (by unfold Func.isWrapper; first | (rw [if_pos (by decide +kernel)]; kernel_rfl) | (rw [if_neg (by decide +kernel)]; exact ⟨rfl, rfl⟩))
    (fun os started H enc _ => lifted os started H enc)
theorem proved : Rows.NetOrderSaid := over
end Go.Proofs.Ytlceembcehokoaa.lawNetOrder

/- FareSums: the statement, out of its walk: the arguments are opened, the law answers true and leaves all that was there as it was. -/
import Derived.Test.YthbjgeemenenhaaOpen
import Derived.Test.YthbjgeemenenhaaRows
import Derived.Test.YthbjgeemenenhaaFareSum
namespace Go.Proofs.Ythbjgeemenenhaa.lawFareSums
open Go.ChangeShapes Go.WideShapes Go.ChangeAt Go.RowKit
set_option linter.unusedVariables false
theorem own : ownKnob Try.prog.godebug = none := by kernel_rfl
theorem laidOut : laidOutB Try.prog = true := by kernel_rfl
theorem rcells23 : Try.prog.cellsOf 23 = 1 := by kernel_rfl
theorem rbytes23 : Try.prog.bytesOf 23 = 8 := by kernel_rfl
def rf23 : Nat → List Value := fun b => [.float .f64 b]
def rq23 (_ : World) : Nat → Prop := fun b => (Lit.float .f64 b).wf = true
theorem rd23 {H : Type} (enc : TypeId × Value → H) (W : World) : Reads enc Try.prog W 23 rf23 (rq23 W) := reads_float Try.underlying23
theorem rcells22 : Try.prog.cellsOf 22 = 1 := by kernel_rfl
theorem rbytes22 : Try.prog.bytesOf 22 = 24 := by kernel_rfl
def rf22 : (Option Addr × Nat × List Nat) → List Value := fun s => [sv s]
def rq22 (W : World) : (Option Addr × Nat × List Nat) → Prop := IsL W 8 rf23 (rq23 W)
theorem rd22 {H : Type} (enc : TypeId × Value → H) (W : World) : Reads enc Try.prog W 22 rf22 (rq22 W) := reads_slice Try.underlying22 rcells23 rbytes23 (by omega) (fun _ _ => by rfl) (rd23 enc W)
set_option maxRecDepth 100000 in
theorem lifted (os : Os) (started : os.Started) (H : Type) (enc : TypeId × Value → H) :
    ReturnsInHanded {} Try.checked os 3 .any (Rows.fareSumsSpec.pre6 enc Try.prog Try.f3 Rows.fareSumsRow.domain false) (Rows.fareSumsSpec.post enc Try.prog Try.f3 false true false false) := by
  refine returnsInHanded_of_change_sized (C := Try.checked) own started (by kernel_rfl) Try.func3
    (ChangeSpec.witness6 (enc := enc) (C := Try.checked) false ⟨#[], #[.slice none 0 0], []⟩ 8 (by kernel_rfl) (by kernel_rfl) (by kernel_rfl) (by kernel_rfl)) ?_
  intro W base args ds gs before hval0 hW hcnd hsz0 _
  have hval : ∀ (j : Nat) t v, Try.f3.params[j]? = some t → args[j]? = some v → Value.okWide Try.prog W .any base t v := hval0
  have hsz : (DataW.weightsEach Try.prog (Try.f3.params.toList ++ Rows.fareSumsSpec.plain.varTypes Try.prog) (ds ++ gs)).all (· ≤ reachBytes) = true := hsz0
  have hW' := hW
  obtain ⟨p, q, hA0, hV, rfl, hfz, hnd⟩ := hW
  have hA : DataW.TrodAll enc Try.prog W 0 (fun _ => true) true Try.f3.params.toList args.toList ds p := hA0
  rw [Try.params3] at hA hval hsz
  obtain ⟨v0, vs0, d0, ds0, p0, q0, hargs, rfl, rfl, h0, r0⟩ := trodAll_cons hA
  obtain ⟨rfl, rfl, rfl⟩ := trodAll_nil r0
  obtain rfl : args = #[v0] := by cases args; simp_all
  obtain ⟨rfl, rfl⟩ := trodVars_none hV
  have k0 := h0
  have lt0 : ∀ x ∈ p0, x.block < W.heap.size := by obtain ⟨m, hm⟩ := k0; exact DataW.trod_lt m _ _ _ hm
  obtain ⟨a0, e0, o0⟩ := open_slice_arg Try.underlying22 (rd22 enc W) (hval 0 22 v0 rfl rfl) h0 (fun n hn => by have := List.all_eq_true.1 hsz n (DataW.weights_mem_each (j := 0) (t := 22) rfl rfl n hn); simpa using this)
  subst e0
  refine (sums_walk W a0 o0).mono fun e W' ⟨he, bel⟩ => ?_
  subst he
  exact ⟨_, rfl, _, _, _, [], _, [], hW', trodAll_mk1 (shut_bool Try.underlying4 _), (trodAll_cons_mk (Below.trod laidOut (by kernel_rfl) (of_decide_eq_true (by kernel_rfl)) k0 bel lt0) trodAll_mk0), rfl, bel.frame _, fun h => by cases h⟩
theorem over : Rows.fareSumsRow.holds Try.pinned (OpenSpec.ofChange Rows.fareSumsSpec) :=
  OpenClaim.holds_of_wide 3 Try.f3 rfl rfl rfl rfl rfl rfl rfl ⟨rfl, rfl, rfl, rfl, rfl⟩ rfl rfl rfl rfl rfl (by kernel_rfl) Try.func3 (by kernel_rfl)
    (of_decide_eq_true (by kernel_rfl)) (by unfold Func.isWrapper; first | (rw [if_pos (by decide +kernel)]; kernel_rfl) | (rw [if_neg (by decide +kernel)]; exact ⟨rfl, rfl⟩))
    (fun os started H enc _ => lifted os started H enc)
theorem proved : Rows.FareSumsSaid := over
end Go.Proofs.Ythbjgeemenenhaa.lawFareSums

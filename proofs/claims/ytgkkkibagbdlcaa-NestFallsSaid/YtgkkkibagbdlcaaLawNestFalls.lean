/- NestFalls: the statement, out of its walk: the arguments are opened, the law answers true and leaves all that was there as it was. -/
import Derived.Test.YtgkkkibagbdlcaaOpen
import Derived.Test.YtgkkkibagbdlcaaRows
import Derived.Test.YtgkkkibagbdlcaaNestLim3
namespace Go.Proofs.Ytgkkkibagbdlcaa.lawNestFalls
open Go.ChangeShapes Go.WideShapes Go.ChangeAt Go.RowKit
set_option linter.unusedVariables false
theorem own : ownKnob Try.prog.godebug = none := by kernel_rfl
theorem laidOut : laidOutB Try.prog = true := by kernel_rfl
theorem rcells46 : Try.prog.cellsOf 46 = 1 := by kernel_rfl
theorem rbytes46 : Try.prog.bytesOf 46 = 8 := by kernel_rfl
def rf46 : Nat → List Value := fun b => [.float .f64 b]
def rq46 (_ : World) : Nat → Prop := fun b => (Lit.float .f64 b).wf = true
theorem rd46 {H : Type} (enc : TypeId × Value → H) (W : World) : Reads enc Try.prog W 46 rf46 (rq46 W) := reads_float Try.underlying46
theorem rcells37 : Try.prog.cellsOf 37 = 1 := by kernel_rfl
theorem rbytes37 : Try.prog.bytesOf 37 = 24 := by kernel_rfl
def rf37 : (Option Addr × Nat × List Nat) → List Value := fun s => [sv s]
def rq37 (W : World) : (Option Addr × Nat × List Nat) → Prop := IsL W 8 rf46 (rq46 W)
theorem rd37 {H : Type} (enc : TypeId × Value → H) (W : World) : Reads enc Try.prog W 37 rf37 (rq37 W) := reads_slice Try.underlying37 rcells46 rbytes46 (by omega) (fun _ _ => by rfl) (rd46 enc W)
set_option maxRecDepth 100000 in
theorem lifted (os : Os) (started : os.Started) (H : Type) (enc : TypeId × Value → H) :
    ReturnsInHanded {} Try.checked os 9 .any (Rows.nestFallsSpec.pre6 enc Try.prog Try.f9 Rows.nestFallsRow.domain false) (Rows.nestFallsSpec.post enc Try.prog Try.f9 false true false false) := by
  refine returnsInHanded_of_change_sized (C := Try.checked) own started (by kernel_rfl) Try.func9
    (ChangeSpec.witness6 (enc := enc) (C := Try.checked) false ⟨#[], #[.int .i64 0, .slice none 0 0], []⟩ 8 (by kernel_rfl) (by kernel_rfl) (by kernel_rfl) (by kernel_rfl)) ?_
  intro W base args ds gs before hval0 hW hcnd hsz0 _
  have hval : ∀ (j : Nat) t v, Try.f9.params[j]? = some t → args[j]? = some v → Value.okWide Try.prog W .any base t v := hval0
  have hsz : (DataW.weightsEach Try.prog (Try.f9.params.toList ++ Rows.nestFallsSpec.plain.varTypes Try.prog) (ds ++ gs)).all (· ≤ reachBytes) = true := hsz0
  have hW' := hW
  obtain ⟨p, q, hA0, hV, rfl, hfz, hnd⟩ := hW
  have hA : DataW.TrodAll enc Try.prog W 0 (fun _ => true) true Try.f9.params.toList args.toList ds p := hA0
  rw [Try.params9] at hA hval hsz
  obtain ⟨v0, vs0, d0, ds0, p0, q0, hargs, rfl, rfl, h0, r0⟩ := trodAll_cons hA
  obtain ⟨v1, vs1, d1, ds1, p1, q1, rfl, rfl, rfl, h1, r1⟩ := trodAll_cons r0
  obtain ⟨rfl, rfl, rfl⟩ := trodAll_nil r1
  obtain rfl : args = #[v0, v1] := by cases args; simp_all
  obtain ⟨rfl, rfl⟩ := trodVars_none hV
  have k0 := h0
  have lt0 : ∀ x ∈ p0, x.block < W.heap.size := by obtain ⟨m, hm⟩ := k0; exact DataW.trod_lt m _ _ _ hm
  have k1 := h1
  have lt1 : ∀ x ∈ p1, x.block < W.heap.size := by obtain ⟨m, hm⟩ := k1; exact DataW.trod_lt m _ _ _ hm
  obtain ⟨a0, rfl, rfl, rfl, w0⟩ := open_int Try.underlying3 (hval 0 3 v0 rfl rfl) h0
  obtain ⟨a1, e1, o1⟩ := open_slice_arg Try.underlying37 (rd37 enc W) (hval 1 37 v1 rfl rfl) h1 (fun n hn => by have := List.all_eq_true.1 hsz n (DataW.weights_mem_each (j := 1) (t := 37) rfl rfl n hn); simpa using this)
  subst e1
  refine (falls_walk W a0 w0 a1 o1).mono fun e W' ⟨he, bel⟩ => ?_
  subst he
  exact ⟨_, rfl, _, _, _, [], _, [], hW', trodAll_mk1 (shut_bool Try.underlying4 _), (trodAll_cons_mk (Below.trod laidOut (by kernel_rfl) (of_decide_eq_true (by kernel_rfl)) k0 bel lt0) (trodAll_cons_mk (Below.trod laidOut (by kernel_rfl) (of_decide_eq_true (by kernel_rfl)) k1 bel lt1) trodAll_mk0)), rfl, bel.frame _, fun h => by cases h⟩
theorem over : Rows.nestFallsRow.holds Try.pinned (OpenSpec.ofChange Rows.nestFallsSpec) :=
  OpenClaim.holds_of_wide 9 Try.f9 rfl rfl rfl rfl rfl rfl rfl ⟨rfl, rfl, rfl, rfl, rfl⟩ rfl rfl rfl rfl rfl (by kernel_rfl) Try.func9 (by kernel_rfl)
    (of_decide_eq_true (by kernel_rfl)) (by unfold Func.isWrapper; first | (rw [if_pos (by decide +kernel)]; kernel_rfl) | (rw [if_neg (by decide +kernel)]; exact ⟨rfl, rfl⟩))
    (fun os started H enc _ => lifted os started H enc)
theorem proved : Rows.NestFallsSaid := over
end Go.Proofs.Ytgkkkibagbdlcaa.lawNestFalls

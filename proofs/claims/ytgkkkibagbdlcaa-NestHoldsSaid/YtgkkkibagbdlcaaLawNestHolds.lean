/- NestHolds: the statement, out of its walk: the arguments are opened, the law answers true and leaves all that was there as it was. -/
import Derived.Test.YtgkkkibagbdlcaaOpen
import Derived.Test.YtgkkkibagbdlcaaRows
import Derived.Test.YtgkkkibagbdlcaaReads
import Derived.Test.YtgkkkibagbdlcaaNest12
namespace Go.Proofs.Ytgkkkibagbdlcaa.lawNestHolds
open Go.ChangeShapes Go.WideShapes Go.ChangeAt Go.RowKit
set_option linter.unusedVariables false
theorem own : ownKnob Try.prog.godebug = none := by kernel_rfl
theorem laidOut : laidOutB Try.prog = true := by kernel_rfl
theorem cells3 : Try.prog.cellsOf 3 = 1 := by kernel_rfl
theorem bytes3 : Try.prog.bytesOf 3 = 8 := by kernel_rfl
theorem rcells3 : Try.prog.cellsOf 3 = 1 := by kernel_rfl
theorem rbytes3 : Try.prog.bytesOf 3 = 8 := by kernel_rfl
def rf3 : Int → List Value := fun n => [.int .i64 n]
def rq3 (_ : World) : Int → Prop := fun n => (Lit.int .i64 n).wf = true
theorem rd3 {H : Type} (enc : TypeId × Value → H) (W : World) : Reads enc Try.prog W 3 rf3 (rq3 W) := reads_int Try.underlying3
theorem rcells33 : Try.prog.cellsOf 33 = 2 := by kernel_rfl
theorem rbytes33 : Try.prog.bytesOf 33 = 16 := by kernel_rfl
def rf33 : (List Int) → List Value := fun xs => xs.flatMap rf3
def rq33 (W : World) : (List Int) → Prop := fun xs => xs.length = 2 ∧ ∀ x ∈ xs, rq3 W x
theorem rd33 {H : Type} (enc : TypeId × Value → H) (W : World) : Reads enc Try.prog W 33 rf33 (rq33 W) := reads_array Try.underlying33 rcells3 (by rw [rcells33]) (rd3 enc W)
theorem rcells35 : Try.prog.cellsOf 35 = 1 := by kernel_rfl
theorem rbytes35 : Try.prog.bytesOf 35 = 24 := by kernel_rfl
def rf35 : (Option Addr × Nat × List (List Int)) → List Value := fun s => [sv s]
def rq35 (W : World) : (Option Addr × Nat × List (List Int)) → Prop := IsL W 16 rf33 (rq33 W)
theorem rd35 {H : Type} (enc : TypeId × Value → H) (W : World) : Reads enc Try.prog W 35 rf35 (rq35 W) := reads_slice Try.underlying35 rcells33 rbytes33 (by omega) (fun a h => by rw [show rf33 a = a.flatMap rf3 from rfl, flatMap_len (size := 1) _ (fun _ _ => rfl), h.1]) (rd33 enc W)
set_option maxRecDepth 100000 in
theorem lifted (os : Os) (started : os.Started) (H : Type) (enc : TypeId × Value → H) :
    ReturnsInHanded {} Try.checked os 7 .any (Rows.nestHoldsSpec.pre6 enc Try.prog Try.f7 Rows.nestHoldsRow.domain false) (Rows.nestHoldsSpec.post enc Try.prog Try.f7 false true false false) := by
  refine returnsInHanded_of_change_sized (C := Try.checked) own started (by kernel_rfl) Try.func7
    (ChangeSpec.witness6 (enc := enc) (C := Try.checked) false ⟨#[], #[.slice none 0 0, .slice none 0 0], []⟩ 8 (by kernel_rfl) (by kernel_rfl) (by kernel_rfl) (by kernel_rfl)) ?_
  intro W base args ds gs before hval0 hW hcnd hsz0 _
  have hval : ∀ (j : Nat) t v, Try.f7.params[j]? = some t → args[j]? = some v → Value.okWide Try.prog W .any base t v := hval0
  have hsz : (DataW.weightsEach Try.prog (Try.f7.params.toList ++ Rows.nestHoldsSpec.plain.varTypes Try.prog) (ds ++ gs)).all (· ≤ reachBytes) = true := hsz0
  have hW' := hW
  obtain ⟨p, q, hA0, hV, rfl, hfz, hnd⟩ := hW
  have hA : DataW.TrodAll enc Try.prog W 0 (fun _ => true) true Try.f7.params.toList args.toList ds p := hA0
  rw [Try.params7] at hA hval hsz
  obtain ⟨v0, vs0, d0, ds0, p0, q0, hargs, rfl, rfl, h0, r0⟩ := trodAll_cons hA
  obtain ⟨v1, vs1, d1, ds1, p1, q1, rfl, rfl, rfl, h1, r1⟩ := trodAll_cons r0
  obtain ⟨rfl, rfl, rfl⟩ := trodAll_nil r1
  obtain rfl : args = #[v0, v1] := by cases args; simp_all
  obtain ⟨rfl, rfl⟩ := trodVars_none hV
  have k0 := h0
  have lt0 : ∀ x ∈ p0, x.block < W.heap.size := by obtain ⟨m, hm⟩ := k0; exact DataW.trod_lt m _ _ _ hm
  have k1 := h1
  have lt1 : ∀ x ∈ p1, x.block < W.heap.size := by obtain ⟨m, hm⟩ := k1; exact DataW.trod_lt m _ _ _ hm
  obtain ⟨A0, cap0, zs0, rfl, o0, z0⟩ := open_ints_arg Try.underlying22 Try.underlying3 cells3 (hval 0 22 v0 rfl rfl) h0
  have s0 := z0 140737488351232 (fun elems spare he => by subst he; exact sized_slice hsz (j := 0) (t := 22) (e := 3) rfl rfl Try.underlying22)
  rw [bytes3] at s0
  obtain ⟨a1, e1, o1⟩ := open_slice_arg Try.underlying35 (rd35 enc W) (hval 1 35 v1 rfl rfl) h1 (fun n hn => by have := List.all_eq_true.1 hsz n (DataW.weights_mem_each (j := 1) (t := 35) rfl rfl n hn); simpa using this)
  subst e1
  refine (holds_walk W A0 cap0 zs0 o0 s0 a1 o1).mono fun e W' ⟨he, bel⟩ => ?_
  subst he
  exact ⟨_, rfl, _, _, _, [], _, [], hW', trodAll_mk1 (shut_bool Try.underlying4 _), (trodAll_cons_mk (Below.trod laidOut (by kernel_rfl) (of_decide_eq_true (by kernel_rfl)) k0 bel lt0) (trodAll_cons_mk (Below.trod laidOut (by kernel_rfl) (of_decide_eq_true (by kernel_rfl)) k1 bel lt1) trodAll_mk0)), rfl, bel.frame _, fun h => by cases h⟩
theorem over : Rows.nestHoldsRow.holds Try.pinned (OpenSpec.ofChange Rows.nestHoldsSpec) :=
  OpenClaim.holds_of_wide 7 Try.f7 rfl rfl rfl rfl rfl rfl rfl ⟨rfl, rfl, rfl, rfl, rfl⟩ rfl rfl rfl rfl rfl (by kernel_rfl) Try.func7 (by kernel_rfl)
    (of_decide_eq_true (by kernel_rfl)) (by unfold Func.isWrapper; first | (rw [if_pos (by decide +kernel)]; kernel_rfl) | (rw [if_neg (by decide +kernel)]; exact ⟨rfl, rfl⟩))
    (fun os started H enc _ => lifted os started H enc)
theorem proved : Rows.NestHoldsSaid := over
end Go.Proofs.Ytgkkkibagbdlcaa.lawNestHolds

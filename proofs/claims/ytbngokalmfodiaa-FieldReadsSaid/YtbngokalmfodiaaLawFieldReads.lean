/- FieldReads: the statement, out of its walk: the arguments are opened, the law answers true and leaves all that was there as it was. -/
import Derived.Test.YtbngokalmfodiaaOpen
import Derived.Test.YtbngokalmfodiaaRows
import Derived.Test.YtbngokalmfodiaaReads
import Derived.Test.YtbngokalmfodiaaReadLaws5
namespace Go.Proofs.Ytbngokalmfodiaa.lawFieldReads
open Go.ChangeShapes Go.WideShapes Go.ChangeAt Go.RowKit
set_option linter.unusedVariables false
theorem own : ownKnob Try.prog.godebug = none := by kernel_rfl
theorem laidOut : laidOutB Try.prog = true := by kernel_rfl
theorem cells5 : Try.prog.cellsOf 5 = 1 := by kernel_rfl
theorem bytes5 : Try.prog.bytesOf 5 = 1 := by kernel_rfl
theorem rcells3 : Try.prog.cellsOf 3 = 1 := by kernel_rfl
theorem rbytes3 : Try.prog.bytesOf 3 = 8 := by kernel_rfl
def rf3 : Int → List Value := fun n => [.int .i64 n]
def rq3 (_ : World) : Int → Prop := fun n => (Lit.int .i64 n).wf = true
theorem rd3 {H : Type} (enc : TypeId × Value → H) (W : World) : Reads enc Try.prog W 3 rf3 (rq3 W) := reads_int Try.underlying3
theorem rcells2 : Try.prog.cellsOf 2 = 1 := by kernel_rfl
theorem rbytes2 : Try.prog.bytesOf 2 = 8 := by kernel_rfl
def rf2 : Int → List Value := fun n => [.int .i64 n]
def rq2 (_ : World) : Int → Prop := fun n => (Lit.int .i64 n).wf = true
theorem rd2 {H : Type} (enc : TypeId × Value → H) (W : World) : Reads enc Try.prog W 2 rf2 (rq2 W) := reads_int Try.underlying2
theorem rcells39 : Try.prog.cellsOf 39 = 3 := by kernel_rfl
theorem rbytes39 : Try.prog.bytesOf 39 = 24 := by kernel_rfl
def rf39_2 : Int → List Value := rf2
def rq39_2 (W : World) : Int → Prop := rq2 W
def rf39_1 : Int × Int → List Value := fun a => rf2 a.1 ++ rf39_2 a.2
def rq39_1 (W : World) : Int × Int → Prop := fun a => rq2 W a.1 ∧ rq39_2 W a.2
def rf39 : Int × Int × Int → List Value := fun a => rf3 a.1 ++ rf39_1 a.2
def rq39 (W : World) : Int × Int × Int → Prop := fun a => rq3 W a.1 ∧ rq39_1 W a.2
theorem rd39 {H : Type} (enc : TypeId × Value → H) (W : World) : Reads enc Try.prog W 39 rf39 (rq39 W) := by
  refine reads_struct Try.underlying39 ?_
  rw [rcells39]
  refine readsF_cons (off := 1) (size := 2) (g := rf39_1) (R := rq39_1 W) (rd3 enc W) rfl rfl rcells3 rfl rfl ?_
  refine readsF_cons (off := 2) (size := 1) (g := rf39_2) (R := rq39_2 W) (rd2 enc W) rfl rfl rcells2 rfl rfl ?_
  exact readsF_one (rd2 enc W) rfl rfl rcells2
theorem rcells32 : Try.prog.cellsOf 32 = 1 := by kernel_rfl
theorem rbytes32 : Try.prog.bytesOf 32 = 24 := by kernel_rfl
def rf32 : (Option Addr × Nat × List (Int × Int × Int)) → List Value := fun s => [sv s]
def rq32 (W : World) : (Option Addr × Nat × List (Int × Int × Int)) → Prop := IsL W 24 rf39 (rq39 W)
theorem rd32 {H : Type} (enc : TypeId × Value → H) (W : World) : Reads enc Try.prog W 32 rf32 (rq32 W) := reads_slice Try.underlying32 rcells39 rbytes39 (by omega) (fun _ _ => by rfl) (rd39 enc W)
set_option maxRecDepth 100000 in
theorem lifted (os : Os) (started : os.Started) (H : Type) (enc : TypeId × Value → H) :
    ReturnsInHanded {} Try.checked os 8 .any (Rows.fieldReadsSpec.pre6 enc Try.prog Try.f8 Rows.fieldReadsRow.domain false) (Rows.fieldReadsSpec.post enc Try.prog Try.f8 false true false false) := by
  refine returnsInHanded_of_change_sized (C := Try.checked) own started (by kernel_rfl) Try.func8
    (ChangeSpec.witness6 (enc := enc) (C := Try.checked) false ⟨#[], #[.slice none 0 0, .slice none 0 0], []⟩ 8 (by kernel_rfl) (by kernel_rfl) (by kernel_rfl) (by kernel_rfl)) ?_
  intro W base args ds gs before hval0 hW hcnd hsz0 _
  have hval : ∀ (j : Nat) t v, Try.f8.params[j]? = some t → args[j]? = some v → Value.okWide Try.prog W .any base t v := hval0
  have hsz : (DataW.weightsEach Try.prog (Try.f8.params.toList ++ Rows.fieldReadsSpec.plain.varTypes Try.prog) (ds ++ gs)).all (· ≤ reachBytes) = true := hsz0
  have hW' := hW
  obtain ⟨p, q, hA0, hV, rfl, hfz, hnd⟩ := hW
  have hA : DataW.TrodAll enc Try.prog W 0 (fun _ => true) true Try.f8.params.toList args.toList ds p := hA0
  rw [Try.params8] at hA hval hsz
  obtain ⟨v0, vs0, d0, ds0, p0, q0, hargs, rfl, rfl, h0, r0⟩ := trodAll_cons hA
  obtain ⟨v1, vs1, d1, ds1, p1, q1, rfl, rfl, rfl, h1, r1⟩ := trodAll_cons r0
  obtain ⟨rfl, rfl, rfl⟩ := trodAll_nil r1
  obtain rfl : args = #[v0, v1] := by cases args; simp_all
  obtain ⟨rfl, rfl⟩ := trodVars_none hV
  have k0 := h0
  have lt0 : ∀ x ∈ p0, x.block < W.heap.size := by obtain ⟨m, hm⟩ := k0; exact DataW.trod_lt m _ _ _ hm
  have k1 := h1
  have lt1 : ∀ x ∈ p1, x.block < W.heap.size := by obtain ⟨m, hm⟩ := k1; exact DataW.trod_lt m _ _ _ hm
  obtain ⟨A0, cap0, zs0, rfl, o0, z0⟩ := open_ints_arg Try.underlying23 Try.underlying5 cells5 (hval 0 23 v0 rfl rfl) h0
  have s0 := z0 140737488351232 (fun elems spare he => by subst he; exact sized_slice hsz (j := 0) (t := 23) (e := 5) rfl rfl Try.underlying23)
  rw [bytes5] at s0
  obtain ⟨bs0, lb0, o0⟩ := o0.bytes
  rw [lb0] at hW' k0 ⊢
  obtain ⟨a1, e1, o1⟩ := open_slice_arg Try.underlying32 (rd32 enc W) (hval 1 32 v1 rfl rfl) h1 (fun n hn => by have := List.all_eq_true.1 hsz n (DataW.weights_mem_each (j := 1) (t := 32) rfl rfl n hn); simpa using this)
  subst e1
  refine (reads_walk W A0 cap0 bs0 o0 (by simpa using s0) a1 o1).mono fun e W' ⟨he, bel⟩ => ?_
  subst he
  exact ⟨_, rfl, _, _, _, [], _, [], hW', trodAll_mk1 (shut_bool Try.underlying4 _), (trodAll_cons_mk (Below.trod laidOut (by kernel_rfl) (of_decide_eq_true (by kernel_rfl)) k0 bel lt0) (trodAll_cons_mk (Below.trod laidOut (by kernel_rfl) (of_decide_eq_true (by kernel_rfl)) k1 bel lt1) trodAll_mk0)), rfl, bel.frame _, fun h => by cases h⟩
theorem over : Rows.fieldReadsRow.holds Try.pinned (OpenSpec.ofChange Rows.fieldReadsSpec) :=
  OpenClaim.holds_of_wide 8 Try.f8 rfl rfl rfl rfl rfl rfl rfl ⟨rfl, rfl, rfl, rfl, rfl⟩ rfl rfl rfl rfl rfl (by kernel_rfl) Try.func8 (by kernel_rfl)
    (of_decide_eq_true (by kernel_rfl)) (by unfold Func.isWrapper; first | (rw [if_pos (by decide +kernel)]; kernel_rfl) | (rw [if_neg (by decide +kernel)]; exact ⟨rfl, rfl⟩))
    (fun os started H enc _ => lifted os started H enc)
theorem proved : Rows.FieldReadsSaid := over
end Go.Proofs.Ytbngokalmfodiaa.lawFieldReads

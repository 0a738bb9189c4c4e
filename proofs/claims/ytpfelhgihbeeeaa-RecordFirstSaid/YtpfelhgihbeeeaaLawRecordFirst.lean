/- RecordFirst: the statement, out of its walk: the arguments are opened, the law answers true and leaves all that was there as it was. -/
import Derived.Test.YtpfelhgihbeeeaaOpen
import Derived.Test.YtpfelhgihbeeeaaRows
import Derived.Test.YtpfelhgihbeeeaaScanLaws2
namespace Go.Proofs.Ytpfelhgihbeeeaa.lawRecordFirst
open Go.ChangeShapes Go.WideShapes Go.ChangeAt Go.RowKit
set_option linter.unusedVariables false
theorem own : ownKnob Try.prog.godebug = none := by kernel_rfl
theorem laidOut : laidOutB Try.prog = true := by kernel_rfl
theorem rcells5 : Try.prog.cellsOf 5 = 1 := by kernel_rfl
theorem rbytes5 : Try.prog.bytesOf 5 = 1 := by kernel_rfl
def rf5 : Int → List Value := fun n => [.int .u8 n]
def rq5 (_ : World) : Int → Prop := fun n => (Lit.int .u8 n).wf = true
theorem rd5 {H : Type} (enc : TypeId × Value → H) (W : World) : Reads enc Try.prog W 5 rf5 (rq5 W) := reads_int Try.underlying5
theorem rcells22 : Try.prog.cellsOf 22 = 1 := by kernel_rfl
theorem rbytes22 : Try.prog.bytesOf 22 = 24 := by kernel_rfl
def rf22 : (Option Addr × Nat × List Int) → List Value := fun s => [sv s]
def rq22 (W : World) : (Option Addr × Nat × List Int) → Prop := IsL W 1 rf5 (rq5 W)
theorem rd22 {H : Type} (enc : TypeId × Value → H) (W : World) : Reads enc Try.prog W 22 rf22 (rq22 W) := reads_slice Try.underlying22 rcells5 rbytes5 (by omega) (fun _ _ => by rfl) (rd5 enc W)
theorem rcells28 : Try.prog.cellsOf 28 = 1 := by kernel_rfl
theorem rbytes28 : Try.prog.bytesOf 28 = 24 := by kernel_rfl
def rf28 : (Option Addr × Nat × List (Option Addr × Nat × List Int)) → List Value := fun s => [sv s]
def rq28 (W : World) : (Option Addr × Nat × List (Option Addr × Nat × List Int)) → Prop := IsL W 24 rf22 (rq22 W)
theorem rd28 {H : Type} (enc : TypeId × Value → H) (W : World) : Reads enc Try.prog W 28 rf28 (rq28 W) := reads_slice Try.underlying28 rcells22 rbytes22 (by omega) (fun _ _ => by rfl) (rd22 enc W)
theorem cells5 : Try.prog.cellsOf 5 = 1 := by kernel_rfl
theorem bytes5 : Try.prog.bytesOf 5 = 1 := by kernel_rfl
set_option maxRecDepth 100000 in
theorem lifted (os : Os) (started : os.Started) (H : Type) (enc : TypeId × Value → H) :
    ReturnsInHanded {} Try.checked os 9 .any (Rows.recordFirstSpec.pre6 enc Try.prog Try.f9 Rows.recordFirstRow.domain false) (Rows.recordFirstSpec.post enc Try.prog Try.f9 false true false false) := by
  refine returnsInHanded_of_change_sized (C := Try.checked) own started (by kernel_rfl) Try.func9
    (ChangeSpec.witness6 (enc := enc) (C := Try.checked) false ⟨#[], #[.slice none 0 0, .slice none 0 0], []⟩ 8 (by kernel_rfl) (by kernel_rfl) (by kernel_rfl) (by kernel_rfl)) ?_
  intro W base args ds gs before hval0 hW hcnd hsz0 _
  have hval : ∀ (j : Nat) t v, Try.f9.params[j]? = some t → args[j]? = some v → Value.okWide Try.prog W .any base t v := hval0
  have hsz : (DataW.weightsEach Try.prog (Try.f9.params.toList ++ Rows.recordFirstSpec.plain.varTypes Try.prog) (ds ++ gs)).all (· ≤ reachBytes) = true := hsz0
  have hW' := hW
  obtain ⟨p, q, hA0, hV, rfl, hfz, hnd⟩ := hW
  have hA : DataW.TrodAll enc Try.prog W 0 (fun _ => true) true Try.f9.params.toList args.toList ds p := hA0
  rw [Try.params9] at hA hval hsz
  obtain ⟨v0, vs0, d0, ds0, p0, q0, hargs, rfl, rfl, h0, r0⟩ := trodAll_cons hA
  obtain ⟨v1, vs1, d1, ds1, p1, q1, rfl, rfl, rfl, h1, r1⟩ := trodAll_cons r0
  obtain ⟨rfl, rfl, rfl⟩ := trodAll_nil r1
  obtain rfl : args = #[v0, v1] := by cases args; simp_all
  obtain ⟨rfl, rfl⟩ := trodVars_none hV
  have k0 := h0
  have lt0 : ∀ x ∈ p0, x.block < W.heap.size := by obtain ⟨m, hm⟩ := k0; exact DataW.trod_lt m _ _ _ hm
  have k1 := h1
  have lt1 : ∀ x ∈ p1, x.block < W.heap.size := by obtain ⟨m, hm⟩ := k1; exact DataW.trod_lt m _ _ _ hm
  obtain ⟨a0, e0, o0⟩ := open_slice_arg Try.underlying28 (rd28 enc W) (hval 0 28 v0 rfl rfl) h0 (fun n hn => by have := List.all_eq_true.1 hsz n (DataW.weights_mem_each (j := 0) (t := 28) rfl rfl n hn); simpa using this)
  subst e0
  obtain ⟨A1, cap1, zs1, rfl, o1, z1⟩ := open_ints_arg Try.underlying22 Try.underlying5 cells5 (hval 1 22 v1 rfl rfl) h1
  have s1 := z1 140737488351232 (fun elems spare he => by subst he; exact sized_slice hsz (j := 1) (t := 22) (e := 5) rfl rfl Try.underlying22)
  rw [bytes5] at s1
  obtain ⟨bs1, lb1, o1⟩ := o1.bytes
  rw [lb1] at hW' k1 ⊢
  refine (first_walk W a0 o0 A1 cap1 bs1 o1 (by simpa using s1)).mono fun e W' ⟨he, bel⟩ => ?_
  subst he
  exact ⟨_, rfl, _, _, _, [], _, [], hW', trodAll_mk1 (shut_bool Try.underlying4 _), (trodAll_cons_mk (Below.trod laidOut (by kernel_rfl) (of_decide_eq_true (by kernel_rfl)) k0 bel lt0) (trodAll_cons_mk (Below.trod laidOut (by kernel_rfl) (of_decide_eq_true (by kernel_rfl)) k1 bel lt1) trodAll_mk0)), rfl, bel.frame _, fun h => by cases h⟩
theorem over : Rows.recordFirstRow.holds Try.pinned (OpenSpec.ofChange Rows.recordFirstSpec) :=
  OpenClaim.holds_of_wide 9 Try.f9 rfl rfl rfl rfl rfl rfl rfl ⟨rfl, rfl, rfl, rfl, rfl⟩ rfl rfl rfl rfl rfl (by kernel_rfl) Try.func9 (by kernel_rfl)
    (of_decide_eq_true (by kernel_rfl)) (by unfold Func.isWrapper; first | (rw [if_pos (by decide +kernel)]; kernel_rfl) | (rw [if_neg (by decide +kernel)]; exact ⟨rfl, rfl⟩))
    (fun os started H enc _ => lifted os started H enc)
theorem proved : Rows.RecordFirstSaid := over
end Go.Proofs.Ytpfelhgihbeeeaa.lawRecordFirst

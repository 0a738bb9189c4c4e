/- QueueBack: the statement, out of its walk: the arguments are opened, the law answers true and leaves all that was there as it was. -/
import Derived.Test.YthofodjklogfgaaOpen
import Derived.Test.YthofodjklogfgaaRows
import Derived.Test.YthofodjklogfgaaQueue31
namespace Go.Proofs.Ythofodjklogfgaa.lawQueueBack
open Go.ChangeShapes Go.WideShapes Go.ChangeAt Go.RowKit
set_option linter.unusedVariables false
theorem own : ownKnob Try.prog.godebug = none := by kernel_rfl
theorem laidOut : laidOutB Try.prog = true := by kernel_rfl
theorem rcells3 : Try.prog.cellsOf 3 = 1 := by kernel_rfl
theorem rbytes3 : Try.prog.bytesOf 3 = 8 := by kernel_rfl
def rf3 : Int → List Value := fun n => [.int .i64 n]
def rq3 (_ : World) : Int → Prop := fun n => (Lit.int .i64 n).wf = true
theorem rd3 {H : Type} (enc : TypeId × Value → H) (W : World) : Reads enc Try.prog W 3 rf3 (rq3 W) := reads_int Try.underlying3
theorem rcells26 : Try.prog.cellsOf 26 = 1 := by kernel_rfl
theorem rbytes26 : Try.prog.bytesOf 26 = 8 := by kernel_rfl
def rf26 : Nat → List Value := fun b => [.float .f64 b]
def rq26 (_ : World) : Nat → Prop := fun b => (Lit.float .f64 b).wf = true
theorem rd26 {H : Type} (enc : TypeId × Value → H) (W : World) : Reads enc Try.prog W 26 rf26 (rq26 W) := reads_float Try.underlying26
theorem rcells28 : Try.prog.cellsOf 28 = 5 := by kernel_rfl
theorem rbytes28 : Try.prog.bytesOf 28 = 40 := by kernel_rfl
def rf28_4 : Nat → List Value := rf26
def rq28_4 (W : World) : Nat → Prop := rq26 W
def rf28_3 : Int × Nat → List Value := fun a => rf3 a.1 ++ rf28_4 a.2
def rq28_3 (W : World) : Int × Nat → Prop := fun a => rq3 W a.1 ∧ rq28_4 W a.2
def rf28_2 : Int × Int × Nat → List Value := fun a => rf3 a.1 ++ rf28_3 a.2
def rq28_2 (W : World) : Int × Int × Nat → Prop := fun a => rq3 W a.1 ∧ rq28_3 W a.2
def rf28_1 : Int × Int × Int × Nat → List Value := fun a => rf3 a.1 ++ rf28_2 a.2
def rq28_1 (W : World) : Int × Int × Int × Nat → Prop := fun a => rq3 W a.1 ∧ rq28_2 W a.2
def rf28 : Int × Int × Int × Int × Nat → List Value := fun a => rf3 a.1 ++ rf28_1 a.2
def rq28 (W : World) : Int × Int × Int × Int × Nat → Prop := fun a => rq3 W a.1 ∧ rq28_1 W a.2
theorem rd28 {H : Type} (enc : TypeId × Value → H) (W : World) : Reads enc Try.prog W 28 rf28 (rq28 W) := by
  refine reads_struct Try.underlying28 ?_
  rw [rcells28]
  refine readsF_cons (off := 1) (size := 4) (g := rf28_1) (R := rq28_1 W) (rd3 enc W) rfl rfl rcells3 rfl rfl ?_
  refine readsF_cons (off := 2) (size := 3) (g := rf28_2) (R := rq28_2 W) (rd3 enc W) rfl rfl rcells3 rfl rfl ?_
  refine readsF_cons (off := 3) (size := 2) (g := rf28_3) (R := rq28_3 W) (rd3 enc W) rfl rfl rcells3 rfl rfl ?_
  refine readsF_cons (off := 4) (size := 1) (g := rf28_4) (R := rq28_4 W) (rd3 enc W) rfl rfl rcells3 rfl rfl ?_
  exact readsF_one (rd26 enc W) rfl rfl rcells26
theorem rcells37 : Try.prog.cellsOf 37 = 1 := by kernel_rfl
theorem rbytes37 : Try.prog.bytesOf 37 = 24 := by kernel_rfl
def rf37 : (Option Addr × Nat × List Int) → List Value := fun s => [sv s]
def rq37 (W : World) : (Option Addr × Nat × List Int) → Prop := IsL W 8 rf3 (rq3 W)
theorem rd37 {H : Type} (enc : TypeId × Value → H) (W : World) : Reads enc Try.prog W 37 rf37 (rq37 W) := reads_slice Try.underlying37 rcells3 rbytes3 (by omega) (fun _ _ => by rfl) (rd3 enc W)
theorem rcells39 : Try.prog.cellsOf 39 = 7 := by kernel_rfl
theorem rbytes39 : Try.prog.bytesOf 39 = 72 := by kernel_rfl
def rf39_2 : (Option Addr × Nat × List Int) → List Value := rf37
def rq39_2 (W : World) : (Option Addr × Nat × List Int) → Prop := rq37 W
def rf39_1 : (Int × Int × Int × Int × Nat) × (Option Addr × Nat × List Int) → List Value := fun a => rf28 a.1 ++ rf39_2 a.2
def rq39_1 (W : World) : (Int × Int × Int × Int × Nat) × (Option Addr × Nat × List Int) → Prop := fun a => rq28 W a.1 ∧ rq39_2 W a.2
def rf39 : Int × (Int × Int × Int × Int × Nat) × (Option Addr × Nat × List Int) → List Value := fun a => rf3 a.1 ++ rf39_1 a.2
def rq39 (W : World) : Int × (Int × Int × Int × Int × Nat) × (Option Addr × Nat × List Int) → Prop := fun a => rq3 W a.1 ∧ rq39_1 W a.2
theorem rd39 {H : Type} (enc : TypeId × Value → H) (W : World) : Reads enc Try.prog W 39 rf39 (rq39 W) := by
  refine reads_struct Try.underlying39 ?_
  rw [rcells39]
  refine readsF_cons (off := 1) (size := 6) (g := rf39_1) (R := rq39_1 W) (rd3 enc W) rfl rfl rcells3 rfl rfl ?_
  refine readsF_cons (off := 6) (size := 1) (g := rf39_2) (R := rq39_2 W) (rd28 enc W) rfl rfl rcells28 rfl rfl ?_
  exact readsF_one (rd37 enc W) rfl rfl rcells37
theorem rcells35 : Try.prog.cellsOf 35 = 1 := by kernel_rfl
theorem rbytes35 : Try.prog.bytesOf 35 = 24 := by kernel_rfl
def rf35 : (Option Addr × Nat × List (Int × (Int × Int × Int × Int × Nat) × (Option Addr × Nat × List Int))) → List Value := fun s => [sv s]
def rq35 (W : World) : (Option Addr × Nat × List (Int × (Int × Int × Int × Int × Nat) × (Option Addr × Nat × List Int))) → Prop := IsL W 72 rf39 (rq39 W)
theorem rd35 {H : Type} (enc : TypeId × Value → H) (W : World) : Reads enc Try.prog W 35 rf35 (rq35 W) := reads_slice Try.underlying35 rcells39 rbytes39 (by omega) (fun _ _ => by rfl) (rd39 enc W)
set_option maxRecDepth 100000 in
theorem lifted (os : Os) (started : os.Started) (H : Type) (enc : TypeId × Value → H) :
    ReturnsInHanded {} Try.checked os 8 .any (Rows.queueBackSpec.pre6 enc Try.prog Try.f8 Rows.queueBackRow.domain false) (Rows.queueBackSpec.post enc Try.prog Try.f8 false true false false) := by
  refine returnsInHanded_of_change_sized (C := Try.checked) own started (by kernel_rfl) Try.func8
    (ChangeSpec.witness6 (enc := enc) (C := Try.checked) false ⟨#[], #[.slice none 0 0, .agg #[.int .i64 0, .int .i64 0, .int .i64 0, .int .i64 0, .float .f64 0]], []⟩ 8 (by kernel_rfl) (by kernel_rfl) (by kernel_rfl) (by kernel_rfl)) ?_
  intro W base args ds gs before hval0 hW hcnd hsz0 _
  have hval : ∀ (j : Nat) t v, Try.f8.params[j]? = some t → args[j]? = some v → Value.okWide Try.prog W .any base t v := hval0
  have hsz : (DataW.weightsEach Try.prog (Try.f8.params.toList ++ Rows.queueBackSpec.plain.varTypes Try.prog) (ds ++ gs)).all (· ≤ reachBytes) = true := hsz0
  have hW' := hW
  obtain ⟨p, q, hA0, hV, rfl, hfz, hnd⟩ := hW
  have hA : DataW.TrodAll enc Try.prog W 0 (fun _ => true) true Try.f8.params.toList args.toList ds p := hA0
  rw [Try.params8] at hA hval hsz
  obtain ⟨v0, vs0, d0, ds0, p0, q0, hargs, rfl, rfl, h0, r0⟩ := trodAll_cons hA
  obtain ⟨v1, vs1, d1, ds1, p1, q1, rfl, rfl, rfl, h1, r1⟩ := trodAll_cons r0
  obtain ⟨rfl, rfl, rfl⟩ := trodAll_nil r1
  obtain rfl : args = #[v0, v1] := by cases args; simp_all
  obtain ⟨rfl, rfl⟩ := trodVars_none hV
  have k0 := h0
  have lt0 : ∀ x ∈ p0, x.block < W.heap.size := by obtain ⟨m, hm⟩ := k0; exact DataW.trod_lt m _ _ _ hm
  have k1 := h1
  have lt1 : ∀ x ∈ p1, x.block < W.heap.size := by obtain ⟨m, hm⟩ := k1; exact DataW.trod_lt m _ _ _ hm
  obtain ⟨a0, e0, o0⟩ := open_slice_arg Try.underlying35 (rd35 enc W) (hval 0 35 v0 rfl rfl) h0 (fun n hn => by have := List.all_eq_true.1 hsz n (DataW.weights_mem_each (j := 0) (t := 35) rfl rfl n hn); simpa using this)
  subst e0
  obtain ⟨a1, e1, o1⟩ := open_struct_arg Try.underlying28 (rd28 enc W) (hval 1 28 v1 rfl rfl) h1 (fun n hn => by have := List.all_eq_true.1 hsz n (DataW.weights_mem_each (j := 1) (t := 28) rfl rfl n hn); simpa using this)
  subst e1
  refine (back_walk W a0 o0 a1 o1).mono fun e W' ⟨he, bel⟩ => ?_
  subst he
  exact ⟨_, rfl, _, _, _, [], _, [], hW', trodAll_mk1 (shut_bool Try.underlying4 _), (trodAll_cons_mk (Below.trod laidOut (by kernel_rfl) (of_decide_eq_true (by kernel_rfl)) k0 bel lt0) (trodAll_cons_mk (Below.trod laidOut (by kernel_rfl) (of_decide_eq_true (by kernel_rfl)) k1 bel lt1) trodAll_mk0)), rfl, bel.frame _, fun h => by cases h⟩
theorem over : Rows.queueBackRow.holds Try.pinned (OpenSpec.ofChange Rows.queueBackSpec) :=
  OpenClaim.holds_of_wide 8 Try.f8 rfl rfl rfl rfl rfl rfl rfl ⟨rfl, rfl, rfl, rfl, rfl⟩ rfl rfl rfl rfl rfl (by kernel_rfl) Try.func8 (by kernel_rfl)
    (of_decide_eq_true (by kernel_rfl)) (by unfold Func.isWrapper; first | (rw [if_pos (by decide +kernel)]; kernel_rfl) | (rw [if_neg (by decide +kernel)]; exact ⟨rfl, rfl⟩))
    (fun os started H enc _ => lifted os started H enc)
theorem proved : Rows.QueueBackSaid := over
end Go.Proofs.Ythofodjklogfgaa.lawQueueBack

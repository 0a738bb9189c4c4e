/- NetBack: the statement, out of its walk: the arguments are opened, the law answers true and leaves all that was there as it was. -/
import Derived.Test.YtlceembcehokoaaOpen
import Derived.Test.YtlceembcehokoaaRows
import Derived.Test.YtlceembcehokoaaBe
namespace Go.Proofs.Ytlceembcehokoaa.lawNetBack
open Go.ChangeShapes Go.WideShapes Go.ChangeAt Go.RowKit
set_option linter.unusedVariables false
theorem own : ownKnob Try.prog.godebug = none := by kernel_rfl
theorem laidOut : laidOutB Try.prog = true := by kernel_rfl
theorem rcells3 : Try.prog.cellsOf 3 = 1 := by kernel_rfl
theorem rbytes3 : Try.prog.bytesOf 3 = 8 := by kernel_rfl
def rf3 : Int → List Value := fun n => [.int .i64 n]
def rq3 (_ : World) : Int → Prop := fun n => (Lit.int .i64 n).wf = true
theorem rd3 {H : Type} (enc : TypeId × Value → H) (W : World) : Reads enc Try.prog W 3 rf3 (rq3 W) := reads_int Try.underlying3
theorem rcells4 : Try.prog.cellsOf 4 = 1 := by kernel_rfl
theorem rbytes4 : Try.prog.bytesOf 4 = 1 := by kernel_rfl
def rf4 : Bool → List Value := fun b => [.bool b]
def rq4 (_ : World) : Bool → Prop := fun _ => True
theorem rd4 {H : Type} (enc : TypeId × Value → H) (W : World) : Reads enc Try.prog W 4 rf4 (rq4 W) := reads_bool Try.underlying4
theorem rcells5 : Try.prog.cellsOf 5 = 1 := by kernel_rfl
theorem rbytes5 : Try.prog.bytesOf 5 = 1 := by kernel_rfl
def rf5 : Int → List Value := fun n => [.int .u8 n]
def rq5 (_ : World) : Int → Prop := fun n => (Lit.int .u8 n).wf = true
theorem rd5 {H : Type} (enc : TypeId × Value → H) (W : World) : Reads enc Try.prog W 5 rf5 (rq5 W) := reads_int Try.underlying5
theorem rcells26 : Try.prog.cellsOf 26 = 1 := by kernel_rfl
theorem rbytes26 : Try.prog.bytesOf 26 = 24 := by kernel_rfl
def rf26 : (Option Addr × Nat × List Int) → List Value := fun s => [sv s]
def rq26 (W : World) : (Option Addr × Nat × List Int) → Prop := IsL W 1 rf5 (rq5 W)
theorem rd26 {H : Type} (enc : TypeId × Value → H) (W : World) : Reads enc Try.prog W 26 rf26 (rq26 W) := reads_slice Try.underlying26 rcells5 rbytes5 (by omega) (fun _ _ => by rfl) (rd5 enc W)
theorem rcells70 : Try.prog.cellsOf 70 = 4 := by kernel_rfl
theorem rbytes70 : Try.prog.bytesOf 70 = 48 := by kernel_rfl
def rf70_3 : (Option Addr × Nat × List Int) → List Value := rf26
def rq70_3 (W : World) : (Option Addr × Nat × List Int) → Prop := rq26 W
def rf70_2 : Int × (Option Addr × Nat × List Int) → List Value := fun a => rf3 a.1 ++ rf70_3 a.2
def rq70_2 (W : World) : Int × (Option Addr × Nat × List Int) → Prop := fun a => rq3 W a.1 ∧ rq70_3 W a.2
def rf70_1 : Int × Int × (Option Addr × Nat × List Int) → List Value := fun a => rf3 a.1 ++ rf70_2 a.2
def rq70_1 (W : World) : Int × Int × (Option Addr × Nat × List Int) → Prop := fun a => rq3 W a.1 ∧ rq70_2 W a.2
def rf70 : Int × Int × Int × (Option Addr × Nat × List Int) → List Value := fun a => rf3 a.1 ++ rf70_1 a.2
def rq70 (W : World) : Int × Int × Int × (Option Addr × Nat × List Int) → Prop := fun a => rq3 W a.1 ∧ rq70_1 W a.2
theorem rd70 {H : Type} (enc : TypeId × Value → H) (W : World) : Reads enc Try.prog W 70 rf70 (rq70 W) := by
  refine reads_struct Try.underlying70 ?_
  rw [rcells70]
  refine readsF_cons (off := 1) (size := 3) (g := rf70_1) (R := rq70_1 W) (rd3 enc W) rfl rfl rcells3 rfl rfl ?_
  refine readsF_cons (off := 2) (size := 2) (g := rf70_2) (R := rq70_2 W) (rd3 enc W) rfl rfl rcells3 rfl rfl ?_
  refine readsF_cons (off := 3) (size := 1) (g := rf70_3) (R := rq70_3 W) (rd3 enc W) rfl rfl rcells3 rfl rfl ?_
  exact readsF_one (rd26 enc W) rfl rfl rcells26
theorem rcells22 : Try.prog.cellsOf 22 = 1 := by kernel_rfl
theorem rbytes22 : Try.prog.bytesOf 22 = 24 := by kernel_rfl
def rf22 : (Option Addr × Nat × List (Int × Int × Int × (Option Addr × Nat × List Int))) → List Value := fun s => [sv s]
def rq22 (W : World) : (Option Addr × Nat × List (Int × Int × Int × (Option Addr × Nat × List Int))) → Prop := IsL W 48 rf70 (rq70 W)
theorem rd22 {H : Type} (enc : TypeId × Value → H) (W : World) : Reads enc Try.prog W 22 rf22 (rq22 W) := reads_slice Try.underlying22 rcells70 rbytes70 (by omega) (fun _ _ => by rfl) (rd70 enc W)
theorem rcells23 : Try.prog.cellsOf 23 = 1 := by kernel_rfl
theorem rbytes23 : Try.prog.bytesOf 23 = 24 := by kernel_rfl
def rf23 : (Option Addr × Nat × List Int) → List Value := fun s => [sv s]
def rq23 (W : World) : (Option Addr × Nat × List Int) → Prop := IsL W 8 rf3 (rq3 W)
theorem rd23 {H : Type} (enc : TypeId × Value → H) (W : World) : Reads enc Try.prog W 23 rf23 (rq23 W) := reads_slice Try.underlying23 rcells3 rbytes3 (by omega) (fun _ _ => by rfl) (rd3 enc W)
theorem rcells25 : Try.prog.cellsOf 25 = 2 := by kernel_rfl
theorem rbytes25 : Try.prog.bytesOf 25 = 48 := by kernel_rfl
def rf25_1 : (Option Addr × Nat × List Int) → List Value := rf23
def rq25_1 (W : World) : (Option Addr × Nat × List Int) → Prop := rq23 W
def rf25 : (Option Addr × Nat × List Int) × (Option Addr × Nat × List Int) → List Value := fun a => rf23 a.1 ++ rf25_1 a.2
def rq25 (W : World) : (Option Addr × Nat × List Int) × (Option Addr × Nat × List Int) → Prop := fun a => rq23 W a.1 ∧ rq25_1 W a.2
theorem rd25 {H : Type} (enc : TypeId × Value → H) (W : World) : Reads enc Try.prog W 25 rf25 (rq25 W) := by
  refine reads_struct Try.underlying25 ?_
  rw [rcells25]
  refine readsF_cons (off := 1) (size := 1) (g := rf25_1) (R := rq25_1 W) (rd23 enc W) rfl rfl rcells23 rfl rfl ?_
  exact readsF_one (rd23 enc W) rfl rfl rcells23
theorem rcells28 : Try.prog.cellsOf 28 = 5 := by kernel_rfl
theorem rbytes28 : Try.prog.bytesOf 28 = 88 := by kernel_rfl
def rf28_3 : (Option Addr × Nat × List Int) → List Value := rf26
def rq28_3 (W : World) : (Option Addr × Nat × List Int) → Prop := rq26 W
def rf28_2 : ((Option Addr × Nat × List Int) × (Option Addr × Nat × List Int)) × (Option Addr × Nat × List Int) → List Value := fun a => rf25 a.1 ++ rf28_3 a.2
def rq28_2 (W : World) : ((Option Addr × Nat × List Int) × (Option Addr × Nat × List Int)) × (Option Addr × Nat × List Int) → Prop := fun a => rq25 W a.1 ∧ rq28_3 W a.2
def rf28_1 : Int × ((Option Addr × Nat × List Int) × (Option Addr × Nat × List Int)) × (Option Addr × Nat × List Int) → List Value := fun a => rf3 a.1 ++ rf28_2 a.2
def rq28_1 (W : World) : Int × ((Option Addr × Nat × List Int) × (Option Addr × Nat × List Int)) × (Option Addr × Nat × List Int) → Prop := fun a => rq3 W a.1 ∧ rq28_2 W a.2
def rf28 : Int × Int × ((Option Addr × Nat × List Int) × (Option Addr × Nat × List Int)) × (Option Addr × Nat × List Int) → List Value := fun a => rf3 a.1 ++ rf28_1 a.2
def rq28 (W : World) : Int × Int × ((Option Addr × Nat × List Int) × (Option Addr × Nat × List Int)) × (Option Addr × Nat × List Int) → Prop := fun a => rq3 W a.1 ∧ rq28_1 W a.2
theorem rd28 {H : Type} (enc : TypeId × Value → H) (W : World) : Reads enc Try.prog W 28 rf28 (rq28 W) := by
  refine reads_struct Try.underlying28 ?_
  rw [rcells28]
  refine readsF_cons (off := 1) (size := 4) (g := rf28_1) (R := rq28_1 W) (rd3 enc W) rfl rfl rcells3 rfl rfl ?_
  refine readsF_cons (off := 2) (size := 3) (g := rf28_2) (R := rq28_2 W) (rd3 enc W) rfl rfl rcells3 rfl rfl ?_
  refine readsF_cons (off := 4) (size := 1) (g := rf28_3) (R := rq28_3 W) (rd25 enc W) rfl rfl rcells25 rfl rfl ?_
  exact readsF_one (rd26 enc W) rfl rfl rcells26
theorem rcells30 : Try.prog.cellsOf 30 = 16 := by kernel_rfl
theorem rbytes30 : Try.prog.bytesOf 30 = 192 := by kernel_rfl
def rf30_11 : (Int × Int × ((Option Addr × Nat × List Int) × (Option Addr × Nat × List Int)) × (Option Addr × Nat × List Int)) → List Value := rf28
def rq30_11 (W : World) : (Int × Int × ((Option Addr × Nat × List Int) × (Option Addr × Nat × List Int)) × (Option Addr × Nat × List Int)) → Prop := rq28 W
def rf30_10 : (Option Addr × Nat × List (Int × Int × Int × (Option Addr × Nat × List Int))) × (Int × Int × ((Option Addr × Nat × List Int) × (Option Addr × Nat × List Int)) × (Option Addr × Nat × List Int)) → List Value := fun a => rf22 a.1 ++ rf30_11 a.2
def rq30_10 (W : World) : (Option Addr × Nat × List (Int × Int × Int × (Option Addr × Nat × List Int))) × (Int × Int × ((Option Addr × Nat × List Int) × (Option Addr × Nat × List Int)) × (Option Addr × Nat × List Int)) → Prop := fun a => rq22 W a.1 ∧ rq30_11 W a.2
def rf30_9 : Int × (Option Addr × Nat × List (Int × Int × Int × (Option Addr × Nat × List Int))) × (Int × Int × ((Option Addr × Nat × List Int) × (Option Addr × Nat × List Int)) × (Option Addr × Nat × List Int)) → List Value := fun a => rf3 a.1 ++ rf30_10 a.2
def rq30_9 (W : World) : Int × (Option Addr × Nat × List (Int × Int × Int × (Option Addr × Nat × List Int))) × (Int × Int × ((Option Addr × Nat × List Int) × (Option Addr × Nat × List Int)) × (Option Addr × Nat × List Int)) → Prop := fun a => rq3 W a.1 ∧ rq30_10 W a.2
def rf30_8 : Int × Int × (Option Addr × Nat × List (Int × Int × Int × (Option Addr × Nat × List Int))) × (Int × Int × ((Option Addr × Nat × List Int) × (Option Addr × Nat × List Int)) × (Option Addr × Nat × List Int)) → List Value := fun a => rf3 a.1 ++ rf30_9 a.2
def rq30_8 (W : World) : Int × Int × (Option Addr × Nat × List (Int × Int × Int × (Option Addr × Nat × List Int))) × (Int × Int × ((Option Addr × Nat × List Int) × (Option Addr × Nat × List Int)) × (Option Addr × Nat × List Int)) → Prop := fun a => rq3 W a.1 ∧ rq30_9 W a.2
def rf30_7 : Int × Int × Int × (Option Addr × Nat × List (Int × Int × Int × (Option Addr × Nat × List Int))) × (Int × Int × ((Option Addr × Nat × List Int) × (Option Addr × Nat × List Int)) × (Option Addr × Nat × List Int)) → List Value := fun a => rf3 a.1 ++ rf30_8 a.2
def rq30_7 (W : World) : Int × Int × Int × (Option Addr × Nat × List (Int × Int × Int × (Option Addr × Nat × List Int))) × (Int × Int × ((Option Addr × Nat × List Int) × (Option Addr × Nat × List Int)) × (Option Addr × Nat × List Int)) → Prop := fun a => rq3 W a.1 ∧ rq30_8 W a.2
def rf30_6 : Bool × Int × Int × Int × (Option Addr × Nat × List (Int × Int × Int × (Option Addr × Nat × List Int))) × (Int × Int × ((Option Addr × Nat × List Int) × (Option Addr × Nat × List Int)) × (Option Addr × Nat × List Int)) → List Value := fun a => rf4 a.1 ++ rf30_7 a.2
def rq30_6 (W : World) : Bool × Int × Int × Int × (Option Addr × Nat × List (Int × Int × Int × (Option Addr × Nat × List Int))) × (Int × Int × ((Option Addr × Nat × List Int) × (Option Addr × Nat × List Int)) × (Option Addr × Nat × List Int)) → Prop := fun a => rq4 W a.1 ∧ rq30_7 W a.2
def rf30_5 : Int × Bool × Int × Int × Int × (Option Addr × Nat × List (Int × Int × Int × (Option Addr × Nat × List Int))) × (Int × Int × ((Option Addr × Nat × List Int) × (Option Addr × Nat × List Int)) × (Option Addr × Nat × List Int)) → List Value := fun a => rf3 a.1 ++ rf30_6 a.2
def rq30_5 (W : World) : Int × Bool × Int × Int × Int × (Option Addr × Nat × List (Int × Int × Int × (Option Addr × Nat × List Int))) × (Int × Int × ((Option Addr × Nat × List Int) × (Option Addr × Nat × List Int)) × (Option Addr × Nat × List Int)) → Prop := fun a => rq3 W a.1 ∧ rq30_6 W a.2
def rf30_4 : Int × Int × Bool × Int × Int × Int × (Option Addr × Nat × List (Int × Int × Int × (Option Addr × Nat × List Int))) × (Int × Int × ((Option Addr × Nat × List Int) × (Option Addr × Nat × List Int)) × (Option Addr × Nat × List Int)) → List Value := fun a => rf3 a.1 ++ rf30_5 a.2
def rq30_4 (W : World) : Int × Int × Bool × Int × Int × Int × (Option Addr × Nat × List (Int × Int × Int × (Option Addr × Nat × List Int))) × (Int × Int × ((Option Addr × Nat × List Int) × (Option Addr × Nat × List Int)) × (Option Addr × Nat × List Int)) → Prop := fun a => rq3 W a.1 ∧ rq30_5 W a.2
def rf30_3 : Int × Int × Int × Bool × Int × Int × Int × (Option Addr × Nat × List (Int × Int × Int × (Option Addr × Nat × List Int))) × (Int × Int × ((Option Addr × Nat × List Int) × (Option Addr × Nat × List Int)) × (Option Addr × Nat × List Int)) → List Value := fun a => rf3 a.1 ++ rf30_4 a.2
def rq30_3 (W : World) : Int × Int × Int × Bool × Int × Int × Int × (Option Addr × Nat × List (Int × Int × Int × (Option Addr × Nat × List Int))) × (Int × Int × ((Option Addr × Nat × List Int) × (Option Addr × Nat × List Int)) × (Option Addr × Nat × List Int)) → Prop := fun a => rq3 W a.1 ∧ rq30_4 W a.2
def rf30_2 : Int × Int × Int × Int × Bool × Int × Int × Int × (Option Addr × Nat × List (Int × Int × Int × (Option Addr × Nat × List Int))) × (Int × Int × ((Option Addr × Nat × List Int) × (Option Addr × Nat × List Int)) × (Option Addr × Nat × List Int)) → List Value := fun a => rf3 a.1 ++ rf30_3 a.2
def rq30_2 (W : World) : Int × Int × Int × Int × Bool × Int × Int × Int × (Option Addr × Nat × List (Int × Int × Int × (Option Addr × Nat × List Int))) × (Int × Int × ((Option Addr × Nat × List Int) × (Option Addr × Nat × List Int)) × (Option Addr × Nat × List Int)) → Prop := fun a => rq3 W a.1 ∧ rq30_3 W a.2
def rf30_1 : Int × Int × Int × Int × Int × Bool × Int × Int × Int × (Option Addr × Nat × List (Int × Int × Int × (Option Addr × Nat × List Int))) × (Int × Int × ((Option Addr × Nat × List Int) × (Option Addr × Nat × List Int)) × (Option Addr × Nat × List Int)) → List Value := fun a => rf3 a.1 ++ rf30_2 a.2
def rq30_1 (W : World) : Int × Int × Int × Int × Int × Bool × Int × Int × Int × (Option Addr × Nat × List (Int × Int × Int × (Option Addr × Nat × List Int))) × (Int × Int × ((Option Addr × Nat × List Int) × (Option Addr × Nat × List Int)) × (Option Addr × Nat × List Int)) → Prop := fun a => rq3 W a.1 ∧ rq30_2 W a.2
def rf30 : Int × Int × Int × Int × Int × Int × Bool × Int × Int × Int × (Option Addr × Nat × List (Int × Int × Int × (Option Addr × Nat × List Int))) × (Int × Int × ((Option Addr × Nat × List Int) × (Option Addr × Nat × List Int)) × (Option Addr × Nat × List Int)) → List Value := fun a => rf3 a.1 ++ rf30_1 a.2
def rq30 (W : World) : Int × Int × Int × Int × Int × Int × Bool × Int × Int × Int × (Option Addr × Nat × List (Int × Int × Int × (Option Addr × Nat × List Int))) × (Int × Int × ((Option Addr × Nat × List Int) × (Option Addr × Nat × List Int)) × (Option Addr × Nat × List Int)) → Prop := fun a => rq3 W a.1 ∧ rq30_1 W a.2
theorem rd30 {H : Type} (enc : TypeId × Value → H) (W : World) : Reads enc Try.prog W 30 rf30 (rq30 W) := by
  refine reads_struct Try.underlying30 ?_
  rw [rcells30]
  refine readsF_cons (off := 1) (size := 15) (g := rf30_1) (R := rq30_1 W) (rd3 enc W) rfl rfl rcells3 rfl rfl ?_
  refine readsF_cons (off := 2) (size := 14) (g := rf30_2) (R := rq30_2 W) (rd3 enc W) rfl rfl rcells3 rfl rfl ?_
  refine readsF_cons (off := 3) (size := 13) (g := rf30_3) (R := rq30_3 W) (rd3 enc W) rfl rfl rcells3 rfl rfl ?_
  refine readsF_cons (off := 4) (size := 12) (g := rf30_4) (R := rq30_4 W) (rd3 enc W) rfl rfl rcells3 rfl rfl ?_
  refine readsF_cons (off := 5) (size := 11) (g := rf30_5) (R := rq30_5 W) (rd3 enc W) rfl rfl rcells3 rfl rfl ?_
  refine readsF_cons (off := 6) (size := 10) (g := rf30_6) (R := rq30_6 W) (rd3 enc W) rfl rfl rcells3 rfl rfl ?_
  refine readsF_cons (off := 7) (size := 9) (g := rf30_7) (R := rq30_7 W) (rd4 enc W) rfl rfl rcells4 rfl rfl ?_
  refine readsF_cons (off := 8) (size := 8) (g := rf30_8) (R := rq30_8 W) (rd3 enc W) rfl rfl rcells3 rfl rfl ?_
  refine readsF_cons (off := 9) (size := 7) (g := rf30_9) (R := rq30_9 W) (rd3 enc W) rfl rfl rcells3 rfl rfl ?_
  refine readsF_cons (off := 10) (size := 6) (g := rf30_10) (R := rq30_10 W) (rd3 enc W) rfl rfl rcells3 rfl rfl ?_
  refine readsF_cons (off := 11) (size := 5) (g := rf30_11) (R := rq30_11 W) (rd22 enc W) rfl rfl rcells22 rfl rfl ?_
  exact readsF_one (rd28 enc W) rfl rfl rcells28
set_option maxRecDepth 100000 in
theorem lifted (os : Os) (started : os.Started) (H : Type) (enc : TypeId × Value → H) :
    ReturnsInHanded {} Try.checked os 5 .any (Rows.netBackSpec.pre6 enc Try.prog Try.f5 Rows.netBackRow.domain false) (Rows.netBackSpec.post enc Try.prog Try.f5 false true false false) := by
  refine returnsInHanded_of_change_sized (C := Try.checked) own started (by kernel_rfl) Try.func5
    (ChangeSpec.witness6 (enc := enc) (C := Try.checked) false ⟨#[], #[.agg #[.int .i64 0, .int .i64 0, .int .i64 0, .int .i64 0, .int .i64 0, .int .i64 0, .bool false, .int .i64 0, .int .i64 0, .int .i64 0, .slice none 0 0, .int .i64 0, .int .i64 0, .slice none 0 0, .slice none 0 0, .slice none 0 0], .int .i64 0, .int .u8 0], []⟩ 8 (by kernel_rfl) (by kernel_rfl) (by kernel_rfl) (by kernel_rfl)) ?_
  intro W base args ds gs before hval0 hW hcnd hsz0 _
  have hval : ∀ (j : Nat) t v, Try.f5.params[j]? = some t → args[j]? = some v → Value.okWide Try.prog W .any base t v := hval0
  have hsz : (DataW.weightsEach Try.prog (Try.f5.params.toList ++ Rows.netBackSpec.plain.varTypes Try.prog) (ds ++ gs)).all (· ≤ reachBytes) = true := hsz0
  have hW' := hW
  obtain ⟨p, q, hA0, hV, rfl, hfz, hnd⟩ := hW
  have hA : DataW.TrodAll enc Try.prog W 0 (fun _ => true) true Try.f5.params.toList args.toList ds p := hA0
  rw [Try.params5] at hA hval hsz
  obtain ⟨v0, vs0, d0, ds0, p0, q0, hargs, rfl, rfl, h0, r0⟩ := trodAll_cons hA
  obtain ⟨v1, vs1, d1, ds1, p1, q1, rfl, rfl, rfl, h1, r1⟩ := trodAll_cons r0
  obtain ⟨v2, vs2, d2, ds2, p2, q2, rfl, rfl, rfl, h2, r2⟩ := trodAll_cons r1
  obtain ⟨rfl, rfl, rfl⟩ := trodAll_nil r2
  obtain rfl : args = #[v0, v1, v2] := by cases args; simp_all
  obtain ⟨rfl, rfl⟩ := trodVars_none hV
  have k0 := h0
  have lt0 : ∀ x ∈ p0, x.block < W.heap.size := by obtain ⟨m, hm⟩ := k0; exact DataW.trod_lt m _ _ _ hm
  have k1 := h1
  have lt1 : ∀ x ∈ p1, x.block < W.heap.size := by obtain ⟨m, hm⟩ := k1; exact DataW.trod_lt m _ _ _ hm
  have k2 := h2
  have lt2 : ∀ x ∈ p2, x.block < W.heap.size := by obtain ⟨m, hm⟩ := k2; exact DataW.trod_lt m _ _ _ hm
  obtain ⟨a0, e0, o0⟩ := open_struct_arg Try.underlying30 (rd30 enc W) (hval 0 30 v0 rfl rfl) h0 (fun n hn => by have := List.all_eq_true.1 hsz n (DataW.weights_mem_each (j := 0) (t := 30) rfl rfl n hn); simpa using this)
  subst e0
  obtain ⟨a1, rfl, rfl, rfl, w1⟩ := open_int Try.underlying3 (hval 1 3 v1 rfl rfl) h1
  obtain ⟨a2, rfl, rfl, rfl, w2⟩ := open_int Try.underlying5 (hval 2 5 v2 rfl rfl) h2
  refine (back_walk W a0 o0 a1 w1 a2 w2).mono fun e W' ⟨he, bel⟩ => ?_
  subst he
  exact ⟨_, rfl, _, _, _, [], _, [], hW', trodAll_mk1 (shut_bool Try.underlying4 _), (trodAll_cons_mk (Below.trod laidOut (by kernel_rfl) (of_decide_eq_true (by kernel_rfl)) k0 bel lt0) (trodAll_cons_mk (Below.trod laidOut (by kernel_rfl) (of_decide_eq_true (by kernel_rfl)) k1 bel lt1) (trodAll_cons_mk (Below.trod laidOut (by kernel_rfl) (of_decide_eq_true (by kernel_rfl)) k2 bel lt2) trodAll_mk0))), rfl, bel.frame _, fun h => by cases h⟩
theorem over : Rows.netBackRow.holds Try.pinned (OpenSpec.ofChange Rows.netBackSpec) :=
  OpenClaim.holds_of_wide 5 Try.f5 rfl rfl rfl rfl rfl rfl rfl ⟨rfl, rfl, rfl, rfl, rfl⟩ rfl rfl rfl rfl rfl (by kernel_rfl) Try.func5 (by kernel_rfl)
    (of_decide_eq_true (by kernel_rfl)) (by unfold Func.isWrapper; first | (rw [if_pos (by decide +kernel)]; kernel_rfl) | (rw [if_neg (by decide +kernel)]; exact ⟨rfl, rfl⟩))
    (fun os started H enc _ => lifted os started H enc)
theorem proved : Rows.NetBackSaid := over
end Go.Proofs.Ytlceembcehokoaa.lawNetBack

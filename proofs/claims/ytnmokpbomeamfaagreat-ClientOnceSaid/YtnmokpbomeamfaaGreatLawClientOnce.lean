/- Proved here, for the statement ClientOnceSaid: the statement itself, out of its walk. It holds with no condition. (Put together and shortened by a program out of many texts: LawClientOnce.) -/
import Derived.Test.YtnmokpbomeamfaaGreatZ28
set_option linter.unusedVariables false
set_option maxRecDepth 100000
set_option maxHeartbeats 64000000
namespace Go.Proofs.YtnmokpbomeamfaaGreat
namespace lawClientOnce
open Go.ChangeShapes Go.WideShapes Go.ChangeAt Go.RowKit
theorem own : ownKnob Tryz.prog.godebug = none := by kernel_rfl
theorem laidOut : laidOutB Tryz.prog = true := by kernel_rfl
theorem rcells5 : Tryz.prog.cellsOf 5 = 1 := by kernel_rfl
theorem rbytes5 : Tryz.prog.bytesOf 5 = 1 := by kernel_rfl
def rf5 : Int → List Value := fun n => [.int .u8 n]
def rq5 (_ : World) : Int → Prop := fun n => (Lit.int .u8 n).wf = true
theorem rd5 {H : Type} (enc : TypeId × Value → H) (W : World) : Reads enc Tryz.prog W 5 rf5 (rq5 W) := reads_int Tryz.underlying5
theorem rcells39 : Tryz.prog.cellsOf 39 = 1 := by kernel_rfl
theorem rbytes39 : Tryz.prog.bytesOf 39 = 24 := by kernel_rfl
def rf39 : (Option Addr × Nat × List Int) → List Value := fun s => [sv s]
def rq39 (W : World) : (Option Addr × Nat × List Int) → Prop := IsL W 1 rf5 (rq5 W)
theorem rd39 {H : Type} (enc : TypeId × Value → H) (W : World) : Reads enc Tryz.prog W 39 rf39 (rq39 W) := reads_slice Tryz.underlying39 rcells5 rbytes5 (by omega) (fun _ _ => by rfl) (rd5 enc W)
theorem rcells22 : Tryz.prog.cellsOf 22 = 1 := by kernel_rfl
theorem rbytes22 : Tryz.prog.bytesOf 22 = 24 := by kernel_rfl
def rf22 : (Option Addr × Nat × List (Option Addr × Nat × List Int)) → List Value := fun s => [sv s]
def rq22 (W : World) : (Option Addr × Nat × List (Option Addr × Nat × List Int)) → Prop := IsL W 24 rf39 (rq39 W)
theorem rd22 {H : Type} (enc : TypeId × Value → H) (W : World) : Reads enc Tryz.prog W 22 rf22 (rq22 W) := reads_slice Tryz.underlying22 rcells39 rbytes39 (by omega) (fun _ _ => by rfl) (rd39 enc W)
theorem rcells3 : Tryz.prog.cellsOf 3 = 1 := by kernel_rfl
theorem rbytes3 : Tryz.prog.bytesOf 3 = 8 := by kernel_rfl
def rf3 : Int → List Value := fun n => [.int .i64 n]
def rq3 (_ : World) : Int → Prop := fun n => (Lit.int .i64 n).wf = true
theorem rd3 {H : Type} (enc : TypeId × Value → H) (W : World) : Reads enc Tryz.prog W 3 rf3 (rq3 W) := reads_int Tryz.underlying3
theorem rcells38 : Tryz.prog.cellsOf 38 = 2 := by kernel_rfl
theorem rbytes38 : Tryz.prog.bytesOf 38 = 16 := by kernel_rfl
def rf38_1 : Int → List Value := rf3
def rq38_1 (W : World) : Int → Prop := rq3 W
def rf38 : Int × Int → List Value := fun a => rf3 a.1 ++ rf38_1 a.2
def rq38 (W : World) : Int × Int → Prop := fun a => rq3 W a.1 ∧ rq38_1 W a.2
theorem rd38 {H : Type} (enc : TypeId × Value → H) (W : World) : Reads enc Tryz.prog W 38 rf38 (rq38 W) := by
 refine reads_struct Tryz.underlying38 ?_
 rw [rcells38]
 refine readsF_cons (off := 1) (size := 1) (g := rf38_1) (R := rq38_1 W) (rd3 enc W) rfl rfl rcells3 rfl rfl ?_
 exact readsF_one (rd3 enc W) rfl rfl rcells3
theorem rcells23 : Tryz.prog.cellsOf 23 = 1 := by kernel_rfl
theorem rbytes23 : Tryz.prog.bytesOf 23 = 24 := by kernel_rfl
def rf23 : (Option Addr × Nat × List (Int × Int)) → List Value := fun s => [sv s]
def rq23 (W : World) : (Option Addr × Nat × List (Int × Int)) → Prop := IsL W 16 rf38 (rq38 W)
theorem rd23 {H : Type} (enc : TypeId × Value → H) (W : World) : Reads enc Tryz.prog W 23 rf23 (rq23 W) := reads_slice Tryz.underlying23 rcells38 rbytes38 (by omega) (fun _ _ => by rfl) (rd38 enc W)
set_option maxRecDepth 100000 in
theorem lifted (os : Os) (started : os.Started) (H : Type) (enc : TypeId × Value → H) :
 ReturnsInHanded {} Tryz.checked os 3 .any (Rows.clientOnceSpec.pre6 enc Tryz.prog Tryz.f3 Rows.clientOnceRow.domain false) (Rows.clientOnceSpec.post enc Tryz.prog Tryz.f3 false true false false) := by
 refine returnsInHanded_of_change_sized (C := Tryz.checked) own started (by kernel_rfl) Tryz.func3
  (ChangeSpec.witness6 (enc := enc) (C := Tryz.checked) false ⟨#[], #[.slice none 0 0, .slice none 0 0], []⟩ 8 (by kernel_rfl) (by kernel_rfl) (by kernel_rfl) (by kernel_rfl)) ?_
 intro W base args ds gs before hval0 hW hcnd hsz0 _
 have hval : ∀ (j : Nat) t v, Tryz.f3.params[j]? = some t → args[j]? = some v → Value.okWide Tryz.prog W .any base t v := hval0
 have hsz : (DataW.weightsEach Tryz.prog (Tryz.f3.params.toList ++ Rows.clientOnceSpec.plain.varTypes Tryz.prog) (ds ++ gs)).all (· ≤ reachBytes) = true := hsz0
 have hW' := hW
 obtain ⟨p, q, hA0, hV, rfl, hfz, hnd⟩ := hW
 have hA : DataW.TrodAll enc Tryz.prog W 0 (fun _ => true) true Tryz.f3.params.toList args.toList ds p := hA0
 rw [Tryz.params3] at hA hval hsz
 obtain ⟨v0, vs0, d0, ds0, p0, q0, hargs, rfl, rfl, h0, r0⟩ := trodAll_cons hA
 obtain ⟨v1, vs1, d1, ds1, p1, q1, rfl, rfl, rfl, h1, r1⟩ := trodAll_cons r0
 obtain ⟨rfl, rfl, rfl⟩ := trodAll_nil r1
 obtain rfl : args = #[v0, v1] := by cases args; simp_all
 obtain ⟨rfl, rfl⟩ := trodVars_none hV
 have k0 := h0
 have lt0 : ∀ x ∈ p0, x.block < W.heap.size := by obtain ⟨m, hm⟩ := k0; exact DataW.trod_lt m _ _ _ hm
 have k1 := h1
 have lt1 : ∀ x ∈ p1, x.block < W.heap.size := by obtain ⟨m, hm⟩ := k1; exact DataW.trod_lt m _ _ _ hm
 obtain ⟨a0, e0, o0⟩ := open_slice_arg Tryz.underlying22 (rd22 enc W) (hval 0 22 v0 rfl rfl) h0 (fun n hn => by have := List.all_eq_true.1 hsz n (DataW.weights_mem_each (j := 0) (t := 22) rfl rfl n hn); simpa using this)
 subst e0
 obtain ⟨a1, e1, o1⟩ := open_slice_arg Tryz.underlying23 (rd23 enc W) (hval 1 23 v1 rfl rfl) h1 (fun n hn => by have := List.all_eq_true.1 hsz n (DataW.weights_mem_each (j := 1) (t := 23) rfl rfl n hn); simpa using this)
 subst e1
 refine (clientOnce_run W a0 o0 a1 o1).mono fun e W' ⟨he, bel⟩ => ?_
 subst he
 exact ⟨_, rfl, _, _, _, [], _, [], hW', trodAll_mk1 (shut_bool Tryz.underlying4 _), (trodAll_cons_mk (Below.trod laidOut (by kernel_rfl) (zY (by kernel_rfl)) k0 bel lt0) (trodAll_cons_mk (Below.trod laidOut (by kernel_rfl) (zY (by kernel_rfl)) k1 bel lt1) trodAll_mk0)), rfl, bel.frame _, fun h => by cases h⟩
theorem over : Rows.clientOnceRow.holds Tryz.pinned (OpenSpec.ofChange Rows.clientOnceSpec) :=
 OpenClaim.holds_of_wide 3 Tryz.f3 rfl rfl rfl rfl rfl rfl rfl ⟨rfl, rfl, rfl, rfl, rfl⟩ rfl rfl rfl rfl rfl (by kernel_rfl) Tryz.func3 (by kernel_rfl)
  (zY (by kernel_rfl)) (by unfold Func.isWrapper; first | (rw [zl (by decide +kernel)]; kernel_rfl) | (rw [zk (by decide +kernel)]; exact ⟨rfl, rfl⟩))
  (fun os started H enc _ => lifted os started H enc)
theorem proved : Rows.ClientOnceSaid := over
end lawClientOnce
end Go.Proofs.YtnmokpbomeamfaaGreat

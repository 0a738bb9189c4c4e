/- ProgressSound: the statement, out of its walk: the arguments are opened, the law answers true and leaves all that was there as it was. -/
import Derived.Test.YthglnipcddoblaaOpen
import Derived.Test.YthglnipcddoblaaRows
import Derived.Test.YthglnipcddoblaaReads
import Derived.Test.YthglnipcddoblaaPeerLaws2
namespace Go.Proofs.Ythglnipcddoblaa.lawProgressSound
open Go.ChangeShapes Go.WideShapes Go.ChangeAt Go.RowKit
set_option linter.unusedVariables false
theorem own : ownKnob Try.prog.godebug = none := by kernel_rfl
theorem laidOut : laidOutB Try.prog = true := by kernel_rfl
theorem rcells3 : Try.prog.cellsOf 3 = 1 := by kernel_rfl
theorem rbytes3 : Try.prog.bytesOf 3 = 8 := by kernel_rfl
def rf3 : Int → List Value := fun n => [.int .i64 n]
def rq3 (_ : World) : Int → Prop := fun n => (Lit.int .i64 n).wf = true
theorem rd3 {H : Type} (enc : TypeId × Value → H) (W : World) : Reads enc Try.prog W 3 rf3 (rq3 W) := reads_int Try.underlying3
theorem rcells4 : Try.prog.cellsOf 4 = 1 := by kernel_rfl
theorem rbytes4 : Try.prog.bytesOf 4 = 1 := by kernel_rfl
def rf4 : Bool → List Value := fun b => [.bool b]
def rq4 (_ : World) : Bool → Prop := fun _ => True
theorem rd4 {H : Type} (enc : TypeId × Value → H) (W : World) : Reads enc Try.prog W 4 rf4 (rq4 W) := reads_bool Try.underlying4
theorem rcells38 : Try.prog.cellsOf 38 = 4 := by kernel_rfl
theorem rbytes38 : Try.prog.bytesOf 38 = 32 := by kernel_rfl
def rf38_3 : Bool → List Value := rf4
def rq38_3 (W : World) : Bool → Prop := rq4 W
def rf38_2 : Int × Bool → List Value := fun a => rf3 a.1 ++ rf38_3 a.2
def rq38_2 (W : World) : Int × Bool → Prop := fun a => rq3 W a.1 ∧ rq38_3 W a.2
def rf38_1 : Int × Int × Bool → List Value := fun a => rf3 a.1 ++ rf38_2 a.2
def rq38_1 (W : World) : Int × Int × Bool → Prop := fun a => rq3 W a.1 ∧ rq38_2 W a.2
def rf38 : Int × Int × Int × Bool → List Value := fun a => rf3 a.1 ++ rf38_1 a.2
def rq38 (W : World) : Int × Int × Int × Bool → Prop := fun a => rq3 W a.1 ∧ rq38_1 W a.2
theorem rd38 {H : Type} (enc : TypeId × Value → H) (W : World) : Reads enc Try.prog W 38 rf38 (rq38 W) := by
  refine reads_struct Try.underlying38 ?_
  rw [rcells38]
  refine readsF_cons (off := 1) (size := 3) (g := rf38_1) (R := rq38_1 W) (rd3 enc W) rfl rfl rcells3 rfl rfl ?_
  refine readsF_cons (off := 2) (size := 2) (g := rf38_2) (R := rq38_2 W) (rd3 enc W) rfl rfl rcells3 rfl rfl ?_
  refine readsF_cons (off := 3) (size := 1) (g := rf38_3) (R := rq38_3 W) (rd3 enc W) rfl rfl rcells3 rfl rfl ?_
  exact readsF_one (rd4 enc W) rfl rfl rcells4
theorem rcells36 : Try.prog.cellsOf 36 = 1 := by kernel_rfl
theorem rbytes36 : Try.prog.bytesOf 36 = 24 := by kernel_rfl
def rf36 : (Option Addr × Nat × List (Int × Int × Int × Bool)) → List Value := fun s => [sv s]
def rq36 (W : World) : (Option Addr × Nat × List (Int × Int × Int × Bool)) → Prop := IsL W 32 rf38 (rq38 W)
theorem rd36 {H : Type} (enc : TypeId × Value → H) (W : World) : Reads enc Try.prog W 36 rf36 (rq36 W) := reads_slice Try.underlying36 rcells38 rbytes38 (by omega) (fun _ => by rfl) (rd38 enc W)
set_option maxRecDepth 100000 in
theorem lifted (os : Os) (started : os.Started) (H : Type) (enc : TypeId × Value → H) :
    ReturnsInHanded {} Try.checked os 6 .any (Rows.progressSoundSpec.pre6 enc Try.prog Try.f6 Rows.progressSoundRow.domain false) (Rows.progressSoundSpec.post enc Try.prog Try.f6 false true false false) := by
  refine returnsInHanded_of_change_sized (C := Try.checked) own started (by kernel_rfl) Try.func6
    (ChangeSpec.witness6 (enc := enc) (C := Try.checked) false ⟨#[], #[.int .i64 0, .int .i64 0, .slice none 0 0], []⟩ 8 (by kernel_rfl) (by kernel_rfl) (by kernel_rfl) (by kernel_rfl)) ?_
  intro W base args ds gs before hval0 hW hcnd hsz0 _
  have hval : ∀ (j : Nat) t v, Try.f6.params[j]? = some t → args[j]? = some v → Value.okWide Try.prog W .any base t v := hval0
  have hsz : (DataW.weightsEach Try.prog (Try.f6.params.toList ++ Rows.progressSoundSpec.plain.varTypes Try.prog) (ds ++ gs)).all (· ≤ reachBytes) = true := hsz0
  have hW' := hW
  obtain ⟨p, q, hA0, hV, rfl, hfz, hnd⟩ := hW
  have hA : DataW.TrodAll enc Try.prog W 0 (fun _ => true) true Try.f6.params.toList args.toList ds p := hA0
  rw [Try.params6] at hA hval hsz
  obtain ⟨v0, vs0, d0, ds0, p0, q0, hargs, rfl, rfl, h0, r0⟩ := trodAll_cons hA
  obtain ⟨v1, vs1, d1, ds1, p1, q1, rfl, rfl, rfl, h1, r1⟩ := trodAll_cons r0
  obtain ⟨v2, vs2, d2, ds2, p2, q2, rfl, rfl, rfl, h2, r2⟩ := trodAll_cons r1
  obtain ⟨rfl, rfl, rfl⟩ := trodAll_nil r2
  obtain rfl : args = #[v0, v1, v2] := by cases args; simp_all
  obtain ⟨rfl, rfl⟩ := trodVars_none hV
  have k0 := h0
  have lt0 : ∀ x ∈ p0, x.block < W.heap.size := by obtain ⟨m, hm⟩ := k0; exact DataW.trod_lt m _ _ _ hm
  have k1 := h1
  have lt1 : ∀ x ∈ p1, x.block < W.heap.size := by obtain ⟨m, hm⟩ := k1; exact DataW.trod_lt m _ _ _ hm
  have k2 := h2
  have lt2 : ∀ x ∈ p2, x.block < W.heap.size := by obtain ⟨m, hm⟩ := k2; exact DataW.trod_lt m _ _ _ hm
  obtain ⟨a0, rfl, rfl, rfl, w0⟩ := open_int Try.underlying3 (hval 0 3 v0 rfl rfl) h0
  obtain ⟨a1, rfl, rfl, rfl, w1⟩ := open_int Try.underlying3 (hval 1 3 v1 rfl rfl) h1
  obtain ⟨a2, e2, o2⟩ := open_slice_arg Try.underlying36 (rd36 enc W) (hval 2 36 v2 rfl rfl) h2 (fun n hn => by have := List.all_eq_true.1 hsz n (DataW.weights_mem_each (j := 2) (t := 36) rfl rfl n hn); simpa using this)
  subst e2
  refine (sound_walk W a0 w0 a1 w1 a2 o2).mono fun e W' ⟨he, bel⟩ => ?_
  subst he
  exact ⟨_, rfl, _, _, _, [], _, [], hW', trodAll_mk1 (shut_bool Try.underlying4 _), (trodAll_cons_mk (Below.trod laidOut (by kernel_rfl) (of_decide_eq_true (by kernel_rfl)) k0 bel lt0) (trodAll_cons_mk (Below.trod laidOut (by kernel_rfl) (of_decide_eq_true (by kernel_rfl)) k1 bel lt1) (trodAll_cons_mk (Below.trod laidOut (by kernel_rfl) (of_decide_eq_true (by kernel_rfl)) k2 bel lt2) trodAll_mk0))), rfl, bel.frame _, fun h => by cases h⟩
theorem over : Rows.progressSoundRow.holds Try.pinned (OpenSpec.ofChange Rows.progressSoundSpec) :=
  OpenClaim.holds_of_wide 6 Try.f6 rfl rfl rfl rfl rfl rfl rfl ⟨rfl, rfl, rfl, rfl, rfl⟩ rfl rfl rfl rfl rfl (by kernel_rfl) Try.func6 (by kernel_rfl)
    (of_decide_eq_true (by kernel_rfl)) (by unfold Func.isWrapper; first | (rw [if_pos (by decide +kernel)]; kernel_rfl) | (rw [if_neg (by decide +kernel)]; exact ⟨rfl, rfl⟩))
    (fun os started H enc _ => lifted os started H enc)
theorem proved : Rows.ProgressSoundSaid := over
end Go.Proofs.Ythglnipcddoblaa.lawProgressSound

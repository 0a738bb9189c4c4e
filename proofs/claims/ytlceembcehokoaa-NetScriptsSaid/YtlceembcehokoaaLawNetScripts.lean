/- NetScripts: the statement, out of its walk: the arguments are opened, the law answers true and leaves all that was there as it was. -/
import Derived.Test.YtlceembcehokoaaOpen
import Derived.Test.YtlceembcehokoaaRows
import Derived.Test.YtlceembcehokoaaNs6
namespace Go.Proofs.Ytlceembcehokoaa.lawNetScripts
open Go.ChangeShapes Go.WideShapes Go.ChangeAt Go.RowKit
set_option linter.unusedVariables false
theorem own : ownKnob Try.prog.godebug = none := by kernel_rfl
theorem laidOut : laidOutB Try.prog = true := by kernel_rfl
theorem rcells3 : Try.prog.cellsOf 3 = 1 := by kernel_rfl
theorem rbytes3 : Try.prog.bytesOf 3 = 8 := by kernel_rfl
def rf3 : Int → List Value := fun n => [.int .i64 n]
def rq3 (_ : World) : Int → Prop := fun n => (Lit.int .i64 n).wf = true
theorem rd3 {H : Type} (enc : TypeId × Value → H) (W : World) : Reads enc Try.prog W 3 rf3 (rq3 W) := reads_int Try.underlying3
theorem rcells5 : Try.prog.cellsOf 5 = 1 := by kernel_rfl
theorem rbytes5 : Try.prog.bytesOf 5 = 1 := by kernel_rfl
def rf5 : Int → List Value := fun n => [.int .u8 n]
def rq5 (_ : World) : Int → Prop := fun n => (Lit.int .u8 n).wf = true
theorem rd5 {H : Type} (enc : TypeId × Value → H) (W : World) : Reads enc Try.prog W 5 rf5 (rq5 W) := reads_int Try.underlying5
theorem rcells26 : Try.prog.cellsOf 26 = 1 := by kernel_rfl
theorem rbytes26 : Try.prog.bytesOf 26 = 24 := by kernel_rfl
def rf26 : (Option Addr × Nat × List Int) → List Value := fun s => [sv s]
def rq26 (W : World) : (Option Addr × Nat × List Int) → Prop := IsL W 1 rf5 (rq5 W)
theorem rd26 {H : Type} (enc : TypeId × Value → H) (W : World) : Reads enc Try.prog W 26 rf26 (rq26 W) := reads_slice Try.underlying26 rcells5 rbytes5 (by omega) (fun _ _ => by rfl) (rd5 enc W)
theorem rcells45 : Try.prog.cellsOf 45 = 3 := by kernel_rfl
theorem rbytes45 : Try.prog.bytesOf 45 = 40 := by kernel_rfl
def rf45_2 : (Option Addr × Nat × List Int) → List Value := rf26
def rq45_2 (W : World) : (Option Addr × Nat × List Int) → Prop := rq26 W
def rf45_1 : Int × (Option Addr × Nat × List Int) → List Value := fun a => rf3 a.1 ++ rf45_2 a.2
def rq45_1 (W : World) : Int × (Option Addr × Nat × List Int) → Prop := fun a => rq3 W a.1 ∧ rq45_2 W a.2
def rf45 : Int × Int × (Option Addr × Nat × List Int) → List Value := fun a => rf3 a.1 ++ rf45_1 a.2
def rq45 (W : World) : Int × Int × (Option Addr × Nat × List Int) → Prop := fun a => rq3 W a.1 ∧ rq45_1 W a.2
theorem rd45 {H : Type} (enc : TypeId × Value → H) (W : World) : Reads enc Try.prog W 45 rf45 (rq45 W) := by
  refine reads_struct Try.underlying45 ?_
  rw [rcells45]
  refine readsF_cons (off := 1) (size := 2) (g := rf45_1) (R := rq45_1 W) (rd3 enc W) rfl rfl rcells3 rfl rfl ?_
  refine readsF_cons (off := 2) (size := 1) (g := rf45_2) (R := rq45_2 W) (rd3 enc W) rfl rfl rcells3 rfl rfl ?_
  exact readsF_one (rd26 enc W) rfl rfl rcells26
theorem rcells63 : Try.prog.cellsOf 63 = 7 := by kernel_rfl
theorem rbytes63 : Try.prog.bytesOf 63 = 72 := by kernel_rfl
def rf63_4 : Int → List Value := rf5
def rq63_4 (W : World) : Int → Prop := rq5 W
def rf63_3 : Int × Int → List Value := fun a => rf3 a.1 ++ rf63_4 a.2
def rq63_3 (W : World) : Int × Int → Prop := fun a => rq3 W a.1 ∧ rq63_4 W a.2
def rf63_2 : Int × Int × Int → List Value := fun a => rf3 a.1 ++ rf63_3 a.2
def rq63_2 (W : World) : Int × Int × Int → Prop := fun a => rq3 W a.1 ∧ rq63_3 W a.2
def rf63_1 : (Int × Int × (Option Addr × Nat × List Int)) × Int × Int × Int → List Value := fun a => rf45 a.1 ++ rf63_2 a.2
def rq63_1 (W : World) : (Int × Int × (Option Addr × Nat × List Int)) × Int × Int × Int → Prop := fun a => rq45 W a.1 ∧ rq63_2 W a.2
def rf63 : Int × (Int × Int × (Option Addr × Nat × List Int)) × Int × Int × Int → List Value := fun a => rf3 a.1 ++ rf63_1 a.2
def rq63 (W : World) : Int × (Int × Int × (Option Addr × Nat × List Int)) × Int × Int × Int → Prop := fun a => rq3 W a.1 ∧ rq63_1 W a.2
theorem rd63 {H : Type} (enc : TypeId × Value → H) (W : World) : Reads enc Try.prog W 63 rf63 (rq63 W) := by
  refine reads_struct Try.underlying63 ?_
  rw [rcells63]
  refine readsF_cons (off := 1) (size := 6) (g := rf63_1) (R := rq63_1 W) (rd3 enc W) rfl rfl rcells3 rfl rfl ?_
  refine readsF_cons (off := 4) (size := 3) (g := rf63_2) (R := rq63_2 W) (rd45 enc W) rfl rfl rcells45 rfl rfl ?_
  refine readsF_cons (off := 5) (size := 2) (g := rf63_3) (R := rq63_3 W) (rd3 enc W) rfl rfl rcells3 rfl rfl ?_
  refine readsF_cons (off := 6) (size := 1) (g := rf63_4) (R := rq63_4 W) (rd3 enc W) rfl rfl rcells3 rfl rfl ?_
  exact readsF_one (rd5 enc W) rfl rfl rcells5
theorem rcells54 : Try.prog.cellsOf 54 = 1 := by kernel_rfl
theorem rbytes54 : Try.prog.bytesOf 54 = 24 := by kernel_rfl
def rf54 : (Option Addr × Nat × List (Int × (Int × Int × (Option Addr × Nat × List Int)) × Int × Int × Int)) → List Value := fun s => [sv s]
def rq54 (W : World) : (Option Addr × Nat × List (Int × (Int × Int × (Option Addr × Nat × List Int)) × Int × Int × Int)) → Prop := IsL W 72 rf63 (rq63 W)
theorem rd54 {H : Type} (enc : TypeId × Value → H) (W : World) : Reads enc Try.prog W 54 rf54 (rq54 W) := reads_slice Try.underlying54 rcells63 rbytes63 (by omega) (fun _ _ => by rfl) (rd63 enc W)
set_option maxRecDepth 100000 in
theorem lifted (os : Os) (started : os.Started) (H : Type) (enc : TypeId × Value → H) :
    ReturnsInHanded {} Try.checked os 9 .any (Rows.netScriptsSpec.pre6 enc Try.prog Try.f9 Rows.netScriptsRow.domain false) (Rows.netScriptsSpec.post enc Try.prog Try.f9 false true false false) := by
  refine returnsInHanded_of_change_sized (C := Try.checked) own started (by kernel_rfl) Try.func9
    (ChangeSpec.witness6 (enc := enc) (C := Try.checked) false ⟨#[], #[.slice none 0 0], []⟩ 8 (by kernel_rfl) (by kernel_rfl) (by kernel_rfl) (by kernel_rfl)) ?_
  intro W base args ds gs before hval0 hW hcnd hsz0 _
  have hval : ∀ (j : Nat) t v, Try.f9.params[j]? = some t → args[j]? = some v → Value.okWide Try.prog W .any base t v := hval0
  have hsz : (DataW.weightsEach Try.prog (Try.f9.params.toList ++ Rows.netScriptsSpec.plain.varTypes Try.prog) (ds ++ gs)).all (· ≤ reachBytes) = true := hsz0
  have hW' := hW
  obtain ⟨p, q, hA0, hV, rfl, hfz, hnd⟩ := hW
  have hA : DataW.TrodAll enc Try.prog W 0 (fun _ => true) true Try.f9.params.toList args.toList ds p := hA0
  rw [Try.params9] at hA hval hsz
  obtain ⟨v0, vs0, d0, ds0, p0, q0, hargs, rfl, rfl, h0, r0⟩ := trodAll_cons hA
  obtain ⟨rfl, rfl, rfl⟩ := trodAll_nil r0
  obtain rfl : args = #[v0] := by cases args; simp_all
  obtain ⟨rfl, rfl⟩ := trodVars_none hV
  have k0 := h0
  have lt0 : ∀ x ∈ p0, x.block < W.heap.size := by obtain ⟨m, hm⟩ := k0; exact DataW.trod_lt m _ _ _ hm
  obtain ⟨a0, e0, o0⟩ := open_slice_arg Try.underlying54 (rd54 enc W) (hval 0 54 v0 rfl rfl) h0 (fun n hn => by have := List.all_eq_true.1 hsz n (DataW.weights_mem_each (j := 0) (t := 54) rfl rfl n hn); simpa using this)
  subst e0
  refine (scripts_walk W a0 o0).mono fun e W' ⟨he, bel⟩ => ?_
  subst he
  exact ⟨_, rfl, _, _, _, [], _, [], hW', trodAll_mk1 (shut_bool Try.underlying4 _), (trodAll_cons_mk (Below.trod laidOut (by kernel_rfl) (of_decide_eq_true (by kernel_rfl)) k0 bel lt0) trodAll_mk0), rfl, bel.frame _, fun h => by cases h⟩
theorem over : Rows.netScriptsRow.holds Try.pinned (OpenSpec.ofChange Rows.netScriptsSpec) :=
  OpenClaim.holds_of_wide 9 Try.f9 rfl rfl rfl rfl rfl rfl rfl ⟨rfl, rfl, rfl, rfl, rfl⟩ rfl rfl rfl rfl rfl (by kernel_rfl) Try.func9 (by kernel_rfl)
    (of_decide_eq_true (by kernel_rfl)) (by unfold Func.isWrapper; first | (rw [if_pos (by decide +kernel)]; kernel_rfl) | (rw [if_neg (by decide +kernel)]; exact ⟨rfl, rfl⟩))
    (fun os started H enc _ => lifted os started H enc)
theorem proved : Rows.NetScriptsSaid := over
end Go.Proofs.Ytlceembcehokoaa.lawNetScripts

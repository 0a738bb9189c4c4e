/- Proved here, for the statement TopFairCardSaid: the statement itself, out of its walk. It holds with no condition. (Put together and shortened by a program out of many texts: LawTopFair.) -/
import Derived.Test.YtbeaoddjomdlcaaGreatDoorZ49
import Derived.Test.YtbeaoddjomdlcaaGreatDoorTie
import Derived.Test.YtbeaoddjomdlcaaGreatDoorCards
import Derived.LaidMore
set_option linter.unusedVariables false
set_option linter.unusedSimpArgs false
set_option maxRecDepth 100000
set_option maxHeartbeats 64000000
namespace Go.Proofs.YtbeaoddjomdlcaaGreatDoor.lawTopFair
open Go
open Go.ChangeShapes Go.WideShapes Go.ChangeAt Go.RowKit
theorem own : ownKnob Tryz.prog.godebug = none := by kernel_rfl
theorem laidOut : laidOutB Tryz.prog = true := by kernel_rfl
theorem rcells3 : Tryz.prog.cellsOf 3 = 1 := by kernel_rfl
theorem rbytes3 : Tryz.prog.bytesOf 3 = 8 := by kernel_rfl
def rf3 : Int → List Value := fun n => [.int .i64 n]
def rq3 (_ : World) : Int → Prop := fun n => (Lit.int .i64 n).wf = true
theorem rd3 {H : Type} (enc : TypeId × Value → H) (W : World) : Reads enc Tryz.prog W 3 rf3 (rq3 W) := reads_int Tryz.underlying3
theorem rcells9 : Tryz.prog.cellsOf 9 = 1 := by kernel_rfl
theorem rbytes9 : Tryz.prog.bytesOf 9 = 16 := by kernel_rfl
def rf9 : ByteArray → List Value := fun s => [.string s]
def rq9 (_ : World) : ByteArray → Prop := fun s => s.size ≤ maxLen ∧ s.size ≤ reachBytes
theorem rd9 {H : Type} (enc : TypeId × Value → H) (W : World) : Reads enc Tryz.prog W 9 rf9 (rq9 W) := reads_string Tryz.underlying9
theorem rcells31 : Tryz.prog.cellsOf 31 = 1 := by kernel_rfl
theorem rbytes31 : Tryz.prog.bytesOf 31 = 8 := by kernel_rfl
def rf31 : Nat → List Value := fun b => [.float .f64 b]
def rq31 (_ : World) : Nat → Prop := fun b => (Lit.float .f64 b).wf = true
theorem rd31 {H : Type} (enc : TypeId × Value → H) (W : World) : Reads enc Tryz.prog W 31 rf31 (rq31 W) := reads_float Tryz.underlying31
theorem rcells26 : Tryz.prog.cellsOf 26 = 1 := by kernel_rfl
theorem rbytes26 : Tryz.prog.bytesOf 26 = 24 := by kernel_rfl
def rf26 : (Option Addr × Nat × List Int) → List Value := fun s => [sv s]
def rq26 (W : World) : (Option Addr × Nat × List Int) → Prop := IsL W 8 rf3 (rq3 W)
theorem rd26 {H : Type} (enc : TypeId × Value → H) (W : World) : Reads enc Tryz.prog W 26 rf26 (rq26 W) := reads_slice Tryz.underlying26 rcells3 rbytes3 (by omega) (fun _ _ => by rfl) (rd3 enc W)
theorem rcells33 : Tryz.prog.cellsOf 33 = 2 := by kernel_rfl
theorem rbytes33 : Tryz.prog.bytesOf 33 = 32 := by kernel_rfl
def rf33_1 : (Option Addr × Nat × List Int) → List Value := rf26
def rq33_1 (W : World) : (Option Addr × Nat × List Int) → Prop := rq26 W
def rf33 : Int × (Option Addr × Nat × List Int) → List Value := fun a => rf3 a.1 ++ rf33_1 a.2
def rq33 (W : World) : Int × (Option Addr × Nat × List Int) → Prop := fun a => rq3 W a.1 ∧ rq33_1 W a.2
theorem rd33 {H : Type} (enc : TypeId × Value → H) (W : World) : Reads enc Tryz.prog W 33 rf33 (rq33 W) := by
  refine reads_struct Tryz.underlying33 ?_
  rw [rcells33]
  refine readsF_cons (off := 1) (size := 1) (g := rf33_1) (R := rq33_1 W) (rd3 enc W) rfl rfl rcells3 rfl rfl ?_
  exact readsF_one (rd26 enc W) rfl rfl rcells26
theorem rcells34 : Tryz.prog.cellsOf 34 = 1 := by kernel_rfl
theorem rbytes34 : Tryz.prog.bytesOf 34 = 24 := by kernel_rfl
def rf34 : (Option Addr × Nat × List Nat) → List Value := fun s => [sv s]
def rq34 (W : World) : (Option Addr × Nat × List Nat) → Prop := IsL W 8 rf31 (rq31 W)
theorem rd34 {H : Type} (enc : TypeId × Value → H) (W : World) : Reads enc Tryz.prog W 34 rf34 (rq34 W) := reads_slice Tryz.underlying34 rcells31 rbytes31 (by omega) (fun _ _ => by rfl) (rd31 enc W)
theorem rcells36 : Tryz.prog.cellsOf 36 = 11 := by kernel_rfl
theorem rbytes36 : Tryz.prog.bytesOf 36 = 136 := by kernel_rfl
def rf36_9 : (Option Addr × Nat × List Nat) → List Value := rf34
def rq36_9 (W : World) : (Option Addr × Nat × List Nat) → Prop := rq34 W
def rf36_8 : (Int × (Option Addr × Nat × List Int)) × (Option Addr × Nat × List Nat) → List Value := fun a => rf33 a.1 ++ rf36_9 a.2
def rq36_8 (W : World) : (Int × (Option Addr × Nat × List Int)) × (Option Addr × Nat × List Nat) → Prop := fun a => rq33 W a.1 ∧ rq36_9 W a.2
def rf36_7 : ByteArray × (Int × (Option Addr × Nat × List Int)) × (Option Addr × Nat × List Nat) → List Value := fun a => rf9 a.1 ++ rf36_8 a.2
def rq36_7 (W : World) : ByteArray × (Int × (Option Addr × Nat × List Int)) × (Option Addr × Nat × List Nat) → Prop := fun a => rq9 W a.1 ∧ rq36_8 W a.2
def rf36_6 : Nat × ByteArray × (Int × (Option Addr × Nat × List Int)) × (Option Addr × Nat × List Nat) → List Value := fun a => rf31 a.1 ++ rf36_7 a.2
def rq36_6 (W : World) : Nat × ByteArray × (Int × (Option Addr × Nat × List Int)) × (Option Addr × Nat × List Nat) → Prop := fun a => rq31 W a.1 ∧ rq36_7 W a.2
def rf36_5 : Int × Nat × ByteArray × (Int × (Option Addr × Nat × List Int)) × (Option Addr × Nat × List Nat) → List Value := fun a => rf3 a.1 ++ rf36_6 a.2
def rq36_5 (W : World) : Int × Nat × ByteArray × (Int × (Option Addr × Nat × List Int)) × (Option Addr × Nat × List Nat) → Prop := fun a => rq3 W a.1 ∧ rq36_6 W a.2
def rf36_4 : Int × Int × Nat × ByteArray × (Int × (Option Addr × Nat × List Int)) × (Option Addr × Nat × List Nat) → List Value := fun a => rf3 a.1 ++ rf36_5 a.2
def rq36_4 (W : World) : Int × Int × Nat × ByteArray × (Int × (Option Addr × Nat × List Int)) × (Option Addr × Nat × List Nat) → Prop := fun a => rq3 W a.1 ∧ rq36_5 W a.2
def rf36_3 : Int × Int × Int × Nat × ByteArray × (Int × (Option Addr × Nat × List Int)) × (Option Addr × Nat × List Nat) → List Value := fun a => rf3 a.1 ++ rf36_4 a.2
def rq36_3 (W : World) : Int × Int × Int × Nat × ByteArray × (Int × (Option Addr × Nat × List Int)) × (Option Addr × Nat × List Nat) → Prop := fun a => rq3 W a.1 ∧ rq36_4 W a.2
def rf36_2 : Int × Int × Int × Int × Nat × ByteArray × (Int × (Option Addr × Nat × List Int)) × (Option Addr × Nat × List Nat) → List Value := fun a => rf3 a.1 ++ rf36_3 a.2
def rq36_2 (W : World) : Int × Int × Int × Int × Nat × ByteArray × (Int × (Option Addr × Nat × List Int)) × (Option Addr × Nat × List Nat) → Prop := fun a => rq3 W a.1 ∧ rq36_3 W a.2
def rf36_1 : ByteArray × Int × Int × Int × Int × Nat × ByteArray × (Int × (Option Addr × Nat × List Int)) × (Option Addr × Nat × List Nat) → List Value := fun a => rf9 a.1 ++ rf36_2 a.2
def rq36_1 (W : World) : ByteArray × Int × Int × Int × Int × Nat × ByteArray × (Int × (Option Addr × Nat × List Int)) × (Option Addr × Nat × List Nat) → Prop := fun a => rq9 W a.1 ∧ rq36_2 W a.2
def rf36 : Int × ByteArray × Int × Int × Int × Int × Nat × ByteArray × (Int × (Option Addr × Nat × List Int)) × (Option Addr × Nat × List Nat) → List Value := fun a => rf3 a.1 ++ rf36_1 a.2
def rq36 (W : World) : Int × ByteArray × Int × Int × Int × Int × Nat × ByteArray × (Int × (Option Addr × Nat × List Int)) × (Option Addr × Nat × List Nat) → Prop := fun a => rq3 W a.1 ∧ rq36_1 W a.2
theorem rd36 {H : Type} (enc : TypeId × Value → H) (W : World) : Reads enc Tryz.prog W 36 rf36 (rq36 W) := by
  refine reads_struct Tryz.underlying36 ?_
  rw [rcells36]
  refine readsF_cons (off := 1) (size := 10) (g := rf36_1) (R := rq36_1 W) (rd3 enc W) rfl rfl rcells3 rfl rfl ?_
  refine readsF_cons (off := 2) (size := 9) (g := rf36_2) (R := rq36_2 W) (rd9 enc W) rfl rfl rcells9 rfl rfl ?_
  refine readsF_cons (off := 3) (size := 8) (g := rf36_3) (R := rq36_3 W) (rd3 enc W) rfl rfl rcells3 rfl rfl ?_
  refine readsF_cons (off := 4) (size := 7) (g := rf36_4) (R := rq36_4 W) (rd3 enc W) rfl rfl rcells3 rfl rfl ?_
  refine readsF_cons (off := 5) (size := 6) (g := rf36_5) (R := rq36_5 W) (rd3 enc W) rfl rfl rcells3 rfl rfl ?_
  refine readsF_cons (off := 6) (size := 5) (g := rf36_6) (R := rq36_6 W) (rd3 enc W) rfl rfl rcells3 rfl rfl ?_
  refine readsF_cons (off := 7) (size := 4) (g := rf36_7) (R := rq36_7 W) (rd31 enc W) rfl rfl rcells31 rfl rfl ?_
  refine readsF_cons (off := 8) (size := 3) (g := rf36_8) (R := rq36_8 W) (rd9 enc W) rfl rfl rcells9 rfl rfl ?_
  refine readsF_cons (off := 10) (size := 1) (g := rf36_9) (R := rq36_9 W) (rd33 enc W) rfl rfl rcells33 rfl rfl ?_
  exact readsF_one (rd34 enc W) rfl rfl rcells34
theorem rcells22 : Tryz.prog.cellsOf 22 = 1 := by kernel_rfl
theorem rbytes22 : Tryz.prog.bytesOf 22 = 24 := by kernel_rfl
def rf22 : (Option Addr × Nat × List (Int × ByteArray × Int × Int × Int × Int × Nat × ByteArray × (Int × (Option Addr × Nat × List Int)) × (Option Addr × Nat × List Nat))) → List Value := fun s => [sv s]
def rq22 (W : World) : (Option Addr × Nat × List (Int × ByteArray × Int × Int × Int × Int × Nat × ByteArray × (Int × (Option Addr × Nat × List Int)) × (Option Addr × Nat × List Nat))) → Prop := IsL W 136 rf36 (rq36 W)
theorem rd22 {H : Type} (enc : TypeId × Value → H) (W : World) : Reads enc Tryz.prog W 22 rf22 (rq22 W) := reads_slice Tryz.underlying22 rcells36 rbytes36 (by omega) (fun _ _ => by rfl) (rd36 enc W)
def conv : (Int × ByteArray × Int × Int × Int × Int × Nat × ByteArray × (Int × (Option Addr × Nat × List Int)) × (Option Addr × Nat × List Nat)) → CmV
  | (kd, pn, fl, cl, mn, tm, sc, lb, (rows, (GA, gc, gs)), (PA, pc, ps)) => ⟨⟨kd, pn, fl, cl, mn, tm, sc, lb, rows, gs, ps⟩, GA, gc, PA, pc⟩
theorem conv_cells (a : (Int × ByteArray × Int × Int × Int × Int × Nat × ByteArray × (Int × (Option Addr × Nat × List Int)) × (Option Addr × Nat × List Nat))) : (conv a).cells = rf36 a := by
  obtain ⟨kd, pn, fl, cl, mn, tm, sc, lb, ⟨rows, GA, gc, gs⟩, PA, pc, ps⟩ := a
  rfl
theorem int_wf {k : Int} (h : (Lit.int .i64 k).wf = true) : wf64 k := by
  simp [Lit.wf, IntKind.min, IntKind.max, IntKind.signed, IntKind.bits] at h
  unfold wf64
  omega
theorem flt_wf {f : Nat} (h : (Lit.float .f64 f).wf = true) : f < 18446744073709551616 := by simpa [Lit.wf] using h
theorem flat_one {α : Type} (f : α → Value) : ∀ l : List α, l.flatMap (fun x => [f x]) = l.map f
  | [] => rfl
  | x :: l => by rw [List.flatMap_cons, flat_one f l]; rfl
theorem conv_ok {W : World} {a : (Int × ByteArray × Int × Int × Int × Int × Nat × ByteArray × (Int × (Option Addr × Nat × List Int)) × (Option Addr × Nat × List Nat))} (h : rq36 W a) : CmI W W.heap.size (conv a) := by
  obtain ⟨kd, pn, fl, cl, mn, tm, sc, lb, ⟨rows, GA, gc, gs⟩, PA, pc, ps⟩ := a
  obtain ⟨h0, h1, h2, h3, h4, h5, h6, h7, ⟨h8, h9⟩, h10⟩ := h
  have hg : IsL W 8 rf3 (rq3 W) (GA, gc, gs) := h9
  have hp : IsL W 8 rf31 (rq31 W) (PA, pc, ps) := h10
  refine ⟨?_, ?_, hg.le, hg.most, hp.le, hp.most, ⟨int_wf h0, int_wf h2, int_wf h3, int_wf h4, int_wf h5, int_wf h8⟩, flt_wf h6, fun i => ?_, ⟨h1.1, h7.1⟩⟩
  · have := hg.rd
    rw [show (gs.flatMap rf3) = gs.map (Value.int .i64) from flat_one _ gs] at this
    exact this
  · have := hp.rd
    rw [show (ps.flatMap rf31) = ps.map fv from flat_one _ ps] at this
    exact this
  · show ps.getD i 0 < _
    rcases Nat.lt_or_ge i ps.length with hi | hi
    · rw [List.getD_eq_getElem?_getD, List.getElem?_eq_getElem hi]
      exact flt_wf (hp.all _ (List.getElem_mem hi))
    · rw [List.getD_eq_getElem?_getD, List.getElem?_eq_none hi]
      decide
theorem flat_conv : ∀ l : List (Int × ByteArray × Int × Int × Int × Int × Nat × ByteArray × (Int × (Option Addr × Nat × List Int)) × (Option Addr × Nat × List Nat)), (l.map conv).flatMap CmV.cells = l.flatMap rf36
  | [] => rfl
  | a :: l => by rw [List.map_cons, List.flatMap_cons, List.flatMap_cons, conv_cells, flat_conv l]
theorem topFair_run (w : World) (a0 : Option Addr × Nat × List (Int × ByteArray × Int × Int × Int × Int × Nat × ByteArray × (Int × (Option Addr × Nat × List Int)) × (Option Addr × Nat × List Nat))) (o0 : IsL w 136 rf36 (rq36 w) a0) :
    Calls Tryz.prog 3 #[sv a0] w fun e w' => e = .returned (.bool true) ∧ Below w.heap.size w w' := by
  have r0 := o0.reach
  unfold reachBytes at r0
  have l0 := o0.le
  have hw := topFair_walk w a0.1 a0.2.1 (a0.2.2.map conv) ⟨by rw [flat_conv]; exact o0.rd, by rw [List.length_map]; exact o0.le, o0.most, fun x hx => by
    obtain ⟨a, ha, rfl⟩ := List.mem_map.1 hx
    exact conv_ok (o0.all a ha)⟩ (by rw [List.length_map]; omega)
  rw [List.length_map] at hw
  exact hw.mono fun e w' ⟨h1, h2⟩ => ⟨h1, Fresh.below h2⟩
def laid3 : List (String × DataW Unit) := [("math/bits.deBruijn32tab", Rows.laid_math_bits_deBruijn32tab), ("math/bits.deBruijn64tab", Rows.laid_math_bits_deBruijn64tab), ("internal/strconv.uint64pow10", Rows.laid_internal_strconv_uint64pow10)]
theorem door_met (os : Os) (args : Array Value) : laidMetH Tryz.prog laid3 ((World.doorLaid Tryz.prog 24 os).forCall (fun _ _ => 0) ⟨#[], args, []⟩).memory :=
  laidMetH_of_parts3 (fuel := 8) (laidMet_of_run' 8 (by kernel_rfl) (by kernel_rfl)) (by kernel_rfl) (by kernel_rfl)
set_option maxRecDepth 100000 in
theorem lifted (os : Os) (started : os.Started) (H : Type) (enc : TypeId × Value → H) :
    ReturnsInHanded {} Tryz.checked os 3 .any (fun w args => (Rows.topFairSpec.pre enc Tryz.prog Tryz.f3 [] false w args ∧ laidMetH Tryz.prog laid3 w) ∧ sizedMet enc Tryz.prog Tryz.f3 (OpenSpec.ofChange Rows.topFairSpec) false w args)
      (Rows.topFairSpec.post enc Tryz.prog Tryz.f3 false true false false) := by
  refine returnsInHanded_of_change_and (C := Tryz.checked) (X := fun w _ => laidMetH Tryz.prog laid3 w) (fun _ _ _ hh h => h.of_heap hh) own started (by kernel_rfl) Tryz.func3
    (ChangeSpec.witness_shaped (enc := enc) (C := Tryz.checked) (os := os) (X := fun w _ => laidMetH Tryz.prog laid3 w) false (World.doorLaid Tryz.prog 24 os) #[.slice none 0 0] 8 rfl (World.shaped_of_RefB (by kernel_rfl) (by kernel_rfl)) (by kernel_rfl) (by kernel_rfl) (by kernel_rfl) (door_met os _)) ?_
  intro W base args ds gs before hval0 hW hcnd hsz0 hL _
  have hval : ∀ (j : Nat) t v, Tryz.f3.params[j]? = some t → args[j]? = some v → Value.okWide Tryz.prog W .any base t v := hval0
  have hsz : (DataW.weightsEach Tryz.prog (Tryz.f3.params.toList ++ Rows.topFairSpec.plain.varTypes Tryz.prog) (ds ++ gs)).all (· ≤ reachBytes) = true := hsz0
  have hW' := hW
  obtain ⟨p, q, hA0, hV, rfl, hfz, hnd⟩ := hW
  have hA : DataW.TrodAll enc Tryz.prog W 0 (fun _ => true) true Tryz.f3.params.toList args.toList ds p := hA0
  rw [Tryz.params3] at hA hval hsz
  obtain ⟨v0, vs0, d0, ds0, p0, q0, hargs, rfl, rfl, h0, r0⟩ := trodAll_cons hA
  obtain ⟨rfl, rfl, rfl⟩ := trodAll_nil r0
  obtain rfl : args = #[v0] := by cases args; simp_all
  obtain ⟨rfl, rfl⟩ := trodVars_none hV
  have k0 := h0
  have lt0 : ∀ x ∈ p0, x.block < W.heap.size := by obtain ⟨m, hm⟩ := k0; exact DataW.trod_lt m _ _ _ hm
  obtain ⟨a0, e0, o0⟩ := open_slice_arg Tryz.underlying22 (rd22 enc W) (hval 0 22 v0 rfl rfl) h0 (fun n hn => by have := List.all_eq_true.1 hsz n (DataW.weights_mem_each (j := 0) (t := 22) rfl rfl n hn); simpa using this)
  subst e0
  refine (topFair_run W a0 o0).mono fun e W' ⟨he, bel⟩ => ?_
  subst he
  exact ⟨_, rfl, _, _, _, [], _, [], hW', trodAll_mk1 (shut_bool Tryz.underlying4 _), (trodAll_cons_mk (Below.trod laidOut (by kernel_rfl) (of_decide_eq_true (by kernel_rfl)) k0 bel lt0) trodAll_mk0), rfl, bel.frame _, fun h => by cases h⟩
theorem over : Rows.topFairRow.holds Tryz.pinned (OpenSpec.ofChange Rows.topFairSpec) :=
  OpenClaim.holds_of_wide 3 Tryz.f3 rfl rfl rfl rfl rfl rfl rfl ⟨rfl, rfl, rfl, rfl, rfl⟩ rfl rfl rfl rfl rfl (by kernel_rfl) Tryz.func3 (by kernel_rfl)
    (of_decide_eq_true (by kernel_rfl)) (by unfold Func.isWrapper; first | (rw [if_pos (by decide +kernel)]; kernel_rfl) | (rw [if_neg (by decide +kernel)]; exact ⟨rfl, rfl⟩))
    (fun os started H enc _ => lifted os started H enc)
theorem card : Claim7.holds Tryz.pinned (.plain (OpenSpec.ofChange Rows.topFairSpec)) Rows.topFairCard :=
  Claim7.holds_tied_plain_at .later [] [.data, .data, .data] true (true, "62972641eb15c08642f0ad0f9a57b98a935dcba43e15cce245e7bf0c3bfb1e45") true
    over (fun _ h => by cases h) (by kernel_rfl) (fun _ h => by cases h) topFair_row_tie rfl ⟨rfl, rfl⟩ (by kernel_rfl) rfl
    (fun f fn hf hfn => by
      obtain rfl : f = 3 := Option.some.inj ((show Tryz.prog.funcNamed "jetway/jetwaytop.TopFair" = some 3 by kernel_rfl).symm.trans hf) |>.symm
      obtain rfl : fn = Tryz.f3 := (Option.some.inj (Tryz.func3.symm.trans hfn)).symm
      exact ⟨by kernel_rfl, fun j t ht => by
        rw [Tryz.params3] at ht
        have hm : t ∈ [22] := by simpa using Array.mem_of_getElem? ht
        have hall : ([22].all fun u => !Tryz.prog.wantsStandIn u) = true := by kernel_rfl
        exact (show Tryz.prog.wantsStandIn t = false by simpa using List.all_eq_true.1 hall t hm)⟩)
    (by kernel_rfl)
theorem proved : Rows.TopFairCardSaid := card
end Go.Proofs.YtbeaoddjomdlcaaGreatDoor.lawTopFair

/- What the reader's Number computes. -/
import Derived.Test.YtlceembcehokoaaRead3
namespace Go.Proofs.Ytlceembcehokoaa
open Go.RowKit ReadM
set_option linter.unusedVariables false

theorem enter_any {P : Program} {f : FuncId} {fn : Func} {c : Code} (hf : P.funcs[f]? = some fn) (hname : (fn.name == "runtime.NumGoroutine") = false) (hb : fn.body = some c) (args : Array Value) (w : World) :
    (callFunc f args).run P w = .ok (.enter f args) w := by
  have h1 : fn.name ≠ "runtime.NumGoroutine" := by simpa using hname
  simp [callFunc, hf, h1, hb]
def uv (n : Nat) : Value := .int .u64 (n : Int)
theorem fresh_blk {W w : World} {g : Nat} {t : TypeId} {cs : Array Value} (h : Blk W g t cs) (F : Fresh W w) : Blk w g t cs := h.frm F (fun f => f)
set_option maxHeartbeats 1000000 in
theorem one_number (W : World) (B g1 g2 : Nat) (bs : List UInt8) (most : Nat) (hm : most < 18446744073709551616) (h1 : Blk W g1 74 #[uv most]) (h2 : Blk W g2 74 #[uv 0]) (hB2 : B ≤ g2) :
    One 92 #[.pointer (some ⟨g1, 0, none⟩), .pointer (some ⟨g2, 0, none⟩)] W B g2 bs ((numRes most bs).map (·.2)) (fun w' => ∀ x, numRes most bs = some x → Blk w' g2 74 #[uv x.1]) where
  enter := fun args w => enter_any (P := Try.prog) (f := 92) Try.func92 (by kernel_rfl) rfl args w
  step := fun w g A cap F hg hl => by
    have b1 := fresh_blk h1 F
    have b2 := fresh_blk h2 F
    have hg1 : g1 ≠ g := by have := h1.lt; omega
    have hg2 : g2 ≠ g := by have := h2.lt; omega
    have HB1 := Lib.hid b1
    have HB2 := Lib.hid b2
    have HL := Lib.hid hl
    clear b1 b2 hl h1 h2
    show Calls _ _ #[_, _, _] _ _
    go_enter Try.func92, Try.ntmps92
    go_wp2_with fail
    refine (size_any w B g A cap bs HL.out).mono ?_
    intro e w1 hsz
    cases hd : dec bs with
    | none =>
      unfold SizeWay at hsz
      rw [hd] at hsz
      obtain ⟨rfl, F1⟩ := hsz
      have HR := Lib.hid (show numRes most bs = none from by rw [numRes, hd])
      clear hd
      have HF1 := Lib.hid F1
      clear F1
      go_wp2_with fail
      refine ⟨rfl, ?_⟩
      rw [HR.out]
      exact ⟨rfl, HF1.out⟩
    | some x =>
      obtain ⟨n, m, rest⟩ := x
      unfold SizeWay at hsz
      rw [hd] at hsz
      obtain ⟨A1, cap1, rfl, hl1, F1⟩ := hsz
      have hn := dec_lt hd
      have HD := Lib.hid hd
      have HL1 := Lib.hid hl1
      have HF1 := Lib.hid F1
      have c1 : w1.cell? ⟨g1, 0, none⟩ = some (.int .u64 (most : Int)) := (HB1.out.frm F1 hg1).cell 0
      have c2 : w1.cell? ⟨g2, 0, none⟩ = some (.int .u64 0) := (HB2.out.frm F1 hg2).cell 0
      have z2 := (HB2.out.frm F1 hg2).frozen 0
      have HB2' := Lib.hid (HB2.out.frm F1 hg2)
      clear hd hl1 F1
      cases m with
      | true =>
        have HR := Lib.hid (show numRes most bs = none from by rw [numRes, HD.out])
        go_wp2_with fail
        refine (must_no _).mono ?_
        rintro e w2 ⟨rfl, rfl⟩
        go_wp2_with fail
        refine ⟨rfl, ?_⟩
        rw [HR.out]
        exact ⟨rfl, HF1.out⟩
      | false =>
        by_cases hle : n ≤ most
        · have HR := Lib.hid (show numRes most bs = some (n, rest) from by rw [numRes, HD.out]; exact if_pos hle)
          have d1 : decide (n ≤ most) = true := by simpa using hle
          go_wp2_with fail
          refine (must_yes _).mono ?_
          rintro e w2 ⟨rfl, rfl⟩
          go_wp2_with fail
          go_end0
          have FS : Frm (fun k => k = g ∨ k = g2) w (w2.setCell ⟨g2, 0, none⟩ (.int .u64 (n : Int))) := (HF1.out.mono (fun _ _ h => .inl h)).setCell (p := ⟨g2, 0, none⟩) (fun _ => .inr rfl) _
          rw [HR.out]
          refine ⟨rfl, ⟨A1, cap1, HL1.out.box.far (by show g ≠ g2; omega) _, ?_, HL1.out.le, HL1.out.most, HL1.out.hB⟩, ?_, FS⟩
          · exact HL1.out.rd.frm (by have := HL1.out.box.lt; have := HL1.out.hB; omega) ((Frm.refl (fun k => k = g2) w2).setCell (p := ⟨g2, 0, none⟩) (fun _ => rfl) _) (fun p _ hp e => by omega)
          · intro x hx
            cases hx
            exact HB2'.out.set 0 _
        · have HR := Lib.hid (show numRes most bs = none from by rw [numRes, HD.out]; exact if_neg hle)
          have d1 : decide (n ≤ most) = false := by simpa using hle
          go_wp2_with fail
          refine (must_no _).mono ?_
          rintro e w2 ⟨rfl, rfl⟩
          go_wp2_with fail
          refine ⟨rfl, ?_⟩
          rw [HR.out]
          exact ⟨rfl, HF1.out⟩

theorem readPost_none {w : World} {B gr go : Nat} {bs : List UInt8} {Good : World → Prop} {e : Ending} {w' : World} (h : ReadPost w B gr go bs none Good e w') : e = .returned (.tuple #[]) ∧ RdrAt w' B gr bs true ∧ Frm (fun k => k = gr) w w' := h
theorem readPost_some {w : World} {B gr go : Nat} {bs rest : List UInt8} {Good : World → Prop} {e : Ending} {w' : World} (h : ReadPost w B gr go bs (some rest) Good e w') : e = .returned (.tuple #[]) ∧ RdrAt w' B gr rest false ∧ Good w' ∧ Frm (fun k => k = gr ∨ k = go) w w' := h
/-- what a reading leaves, and what it answers -/
def NumPost (w : World) (B gr : Nat) (bs : List UInt8) (res : Option (Nat × List UInt8)) (e : Ending) (w' : World) : Prop :=
  e = .returned (uv (match res with | some x => x.1 | none => 0)) ∧ RdrAt w' B gr (match res with | some x => x.2 | none => bs) res.isNone ∧ Frm (fun k => k = gr) w w'
/-- what a reader makes of its bytes if nothing was amiss before -/
def ifGood {α : Type} (bad : Bool) (r : Option α) : Option α := if bad then none else r
set_option maxHeartbeats 1000000 in
theorem readNumber_any (w : World) (B gr : Nat) (bs : List UInt8) (bad : Bool) (most : Nat) (hm : most < 18446744073709551616) (h : RdrAt w B gr bs bad) :
    Calls Try.prog 53 #[.pointer (some ⟨gr, 0, none⟩), .int .u64 (most : Int)] w fun e w' => NumPost w B gr bs (ifGood bad (numRes most bs)) e w' := by
  have H := Lib.hid h
  have hlt : gr < w.heap.size := by obtain ⟨_, _, hb, _⟩ := h; exact hb.lt
  have hB : B ≤ gr := by obtain ⟨_, _, _, _, _, _, hB⟩ := h; exact hB
  clear h
  have hmf : ∀ (fn : Fn) (first cap : Array Value) (w : World), (Instr.makeFunc fn first cap).run Try.prog w = .ok (.func fn first cap) w := fun _ _ _ _ => rfl
  go_enter Try.func53, Try.ntmps53
  go_wp2_with fail
  have F0 : Fresh w ((w.alloc (.cells #[uv most] 74)).alloc (.cells #[uv 0] 74)) := ((Frm.refl _ w).alloc _).alloc _
  have b1 : Blk ((w.alloc (.cells #[uv most] 74)).alloc (.cells #[uv 0] 74)) w.heap.size 74 #[uv most] := (Blk.new w _ _).alloc _
  have b2 : Blk ((w.alloc (.cells #[uv most] 74)).alloc (.cells #[uv 0] 74)) (w.heap.size + 1) 74 #[uv 0] := by
    have := Blk.new (w.alloc (.cells #[uv most] 74)) 74 #[uv 0]
    simpa using this
  have hr := H.out.frm F0 (fun f => f) (fun _ _ f => f)
  cases bad with
  | true =>
    refine (read_bad 92 #[.pointer (some ⟨w.heap.size, 0, none⟩), .pointer (some ⟨w.heap.size + 1, 0, none⟩)] _ B gr (w.heap.size + 1) bs (fun _ => True) hr).mono ?_
    intro e w2 h2
    obtain ⟨rfl, h3, F3⟩ := readPost_none h2
    have c2 : w2.cell? ⟨w.heap.size + 1, 0, none⟩ = some (.int .u64 0) := (b2.frm F3 (show ¬ (w.heap.size + 1 = gr) by omega)).cell 0
    have H3 := Lib.hid h3
    have HF3 := Lib.hid ((Fresh.frm (S := fun k => k = gr) F0).trans F3)
    clear h2 h3 F3 F0 b1 b2 hr
    go_wp2_with fail
    go_ret
    exact ⟨rfl, H3.out, HF3.out⟩
  | false =>
    have hone := one_number _ B w.heap.size (w.heap.size + 1) bs most hm b1 b2 (by omega)
    refine (read_good 92 #[.pointer (some ⟨w.heap.size, 0, none⟩), .pointer (some ⟨w.heap.size + 1, 0, none⟩)] _ B gr (w.heap.size + 1) bs _ _ hr b2.lt (by omega) (by omega) hone (fun w2 w3 hf hg x hx => (hg x hx).frm hf (show ¬ (w.heap.size + 1 = gr) by omega))).mono ?_
    intro e w2 h2
    cases hres : numRes most bs with
    | none =>
      rw [hres] at h2
      obtain ⟨rfl, h3, F3⟩ := readPost_none h2
      have c2 : w2.cell? ⟨w.heap.size + 1, 0, none⟩ = some (.int .u64 0) := (b2.frm F3 (show ¬ (w.heap.size + 1 = gr) by omega)).cell 0
      have H3 := Lib.hid h3
      have HF3 := Lib.hid ((Fresh.frm (S := fun k => k = gr) F0).trans F3)
      have HRES := Lib.hid hres
      clear h2 h3 F3 F0 b1 b2 hr hone hres
      go_wp2_with fail
      go_ret
      rw [HRES.out]
      exact ⟨rfl, H3.out, HF3.out⟩
    | some x =>
      rw [hres] at h2
      obtain ⟨rfl, h3, hg, F3⟩ := readPost_some h2
      have c2 : w2.cell? ⟨w.heap.size + 1, 0, none⟩ = some (.int .u64 (x.1 : Int)) := (hg x rfl).cell 0
      have H3 := Lib.hid h3
      have HF3 := Lib.hid ((Fresh.frm (S := fun k => k = gr) F0).trans' F3 (fun i hi h => by omega))
      have HRES := Lib.hid hres
      clear h2 h3 F3 F0 b1 b2 hr hone hres hg
      go_wp2_with fail
      go_ret
      rw [HRES.out]
      exact ⟨rfl, H3.out, HF3.out⟩
end Go.Proofs.Ytlceembcehokoaa

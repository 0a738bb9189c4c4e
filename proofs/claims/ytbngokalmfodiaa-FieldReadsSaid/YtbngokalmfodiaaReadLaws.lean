/- The laws FieldAgain, FieldStays walked. -/
import Derived.Test.YtbngokalmfodiaaRead7
import Derived.Test.YtbngokalmfodiaaReadMath2
import Derived.Test.YtbngokalmfodiaaFieldLaws
namespace Go.Proofs.Ytbngokalmfodiaa
open Go.RowKit ReadM

theorem intPost_cases {w : World} {B gr : Nat} {bs : List UInt8} {low high : Int} {e : Ending} {w' : World} (h : IntPost w B gr bs (ifGood false (intRes low high bs)) e w') :
    (∃ x rest, intRes low high bs = some (x, rest) ∧ e = .returned (.int .i64 x) ∧ RdrAt w' B gr rest false ∧ Frm (fun k => k = gr) w w') ∨
    (intRes low high bs = none ∧ e = .returned (.int .i64 0) ∧ RdrAt w' B gr bs true ∧ Frm (fun k => k = gr) w w') := by
  unfold ifGood at h
  rw [if_neg (by simp)] at h
  cases hr : intRes low high bs with
  | none => rw [hr] at h; exact .inr ⟨rfl, h⟩
  | some x => rw [hr] at h; exact .inl ⟨x.1, x.2, rfl, h⟩
set_option maxRecDepth 100000 in
set_option maxHeartbeats 1000000 in
theorem again_walk (w : World) (A : Option Addr) (cap : Nat) (bs : List UInt8) (hb : IsBytes w A cap bs) (hr : cap ≤ 140737488351232) :
    Calls Try.prog 11 #[.slice A bs.length cap] w fun e w' => e = .returned (.bool true) ∧ Below w.heap.size w w' := by
  have HB := Lib.hid hb.rd
  have hle := hb.le
  have hbl : bs.length ≤ 140737488355328 := by omega
  have hmost := hb.most
  clear hb
  go_enter Try.func11, Try.ntmps11
  go_wp2_with fail
  refine (new_any w w.heap.size A cap bs HB.out (Nat.le_refl _) hbl hle hmost).mono ?_
  rintro e w1 ⟨g, rfl, h1, F1, hg⟩
  have H1 := Lib.hid h1
  have HF1 := Lib.hid F1
  clear h1 F1
  go_wp2_with fail
  refine (readInt_any w1 g g bs false _ _ H1.out).mono ?_
  intro e w2 h2
  rcases intPost_cases h2 with ⟨x, rest, hx, rfl, h3, F3⟩ | ⟨hx, rfl, h3, F3⟩
  · have H3 := Lib.hid h3
    have hinv := intRes_inv hx
    have HX := Lib.hid hinv.1
    have hx1 := hinv.2.1
    have hx2 := hinv.2.2
    have HF3 := Lib.hid (show Fresh w w2 from HF1.out.trans' F3 (fun i hi h => by omega))
    clear h2 h3 F3 hx hinv
    go_wp2_with fail
    refine (bad_any w2 g g rest false H3.out).mono ?_
    rintro e w3 ⟨rfl, rfl⟩
    go_wp2_with fail
    refine (int_any x hx1 hx2 w2).mono ?_
    rintro e w3 ⟨v, rfl, hs, F4⟩
    obtain ⟨A4, c4, rfl, hc4, hm4, _⟩ := hs.shape
    have HF4 := Lib.hid (HF3.out.trans F4)
    have htk : bs.take (FieldM.int x).length = FieldM.int x := by rw [HX.out, List.take_append_of_le_length (Nat.le_refl _), List.take_of_length_le (Nat.le_refl _)]
    have hL : (FieldM.int x).length ≤ bs.length := by rw [HX.out, List.length_append]; omega
    have hL1 : 1 ≤ (FieldM.int x).length := by rw [FieldM.int_length]; omega
    have r2 : Rd w3 w3.heap.size A ((FieldM.int x).map bv) := by
      have := (HB.out.fresh (Nat.le_refl _) HF4.out).more HF4.out.size
      have := this.take (FieldM.int x).length
      rwa [← List.map_take, htk] at this
    have q1 : ∀ n, (convert 23 9 (.slice A4 (FieldM.int x).length c4)).run Try.prog (w3.drewN n) = .ok (.string (str (FieldM.int x))) (w3.drewN n) := fun n => conv_u c4 (hs.rd.drewN n) rfl
    have q2 : ∀ n, (convert 23 9 (.slice A (FieldM.int x).length cap)).run Try.prog (w3.drewN n) = .ok (.string (str (FieldM.int x))) (w3.drewN n) := fun n => conv_u cap (r2.drewN n) rfl
    clear hs F4 htk r2
    generalize (FieldM.int x).length = L at *
    have hLc : (L : Int) ≤ (cap : Int) := by omega
    have hLb : (L : Int) ≤ (bs.length : Int) := by omega
    have hL11 : (1 : Int) ≤ (L : Int) := by omega
    unfold maxLen at hmost hm4
    go_wp2_with fail
    go_quiet (fail)
    go_wp2_with fail
    go_ret
    exact ⟨by simp, Fresh.below (HF4.out.trans ((Frm.refl _ w3).drewN _))⟩
  · have H3 := Lib.hid h3
    have HF3 := Lib.hid (show Fresh w w2 from HF1.out.trans' F3 (fun i hi h => by omega))
    clear h2 h3 F3 hx
    go_wp2_with fail
    refine (bad_any w2 g g bs true H3.out).mono ?_
    rintro e w3 ⟨rfl, rfl⟩
    go_wp2_with fail
    refine (whole_any w2 g g bs true H3.out).mono ?_
    rintro e w3 ⟨rfl, rfl⟩
    go_wp2_with fail
    go_ret
    exact ⟨by simp [wholeB], HF3.out.below⟩

/-! ### FieldStays -/
def askf (a : Int × Int × Int) : List Value := [.int .i64 a.1, .int .i64 a.2.1, .int .i64 a.2.2]
def askq (a : Int × Int × Int) : Prop := (Lit.int .i64 a.1).wf = true ∧ (Lit.int .i64 a.2.1).wf = true ∧ (Lit.int .i64 a.2.2).wf = true
theorem flatMap_at {α : Type} (f : α → List Value) (size : Nat) (hl : ∀ a, (f a).length = size) : ∀ (xs : List α) (k : Nat) (a : α), xs[k]? = some a → ∀ j, j < size → (xs.flatMap f)[k * size + j]? = (f a)[j]? := by
  intro xs
  induction xs with
  | nil => intro k a h; simp at h
  | cons x r ih =>
    intro k a h j hj
    match k, h with
    | 0, h =>
      have e : x = a := by simpa using h
      subst e
      rw [List.flatMap_cons, Nat.zero_mul, Nat.zero_add, List.getElem?_append_left (by rw [hl]; exact hj)]
    | k + 1, h =>
      rw [List.flatMap_cons, List.getElem?_append_right (by rw [hl, Nat.add_mul]; omega), hl, Nat.add_mul, Nat.one_mul, show k * size + size + j - size = k * size + j by omega]
      exact ih k a (by simpa using h) j hj
theorem elem_at {α : Type} {f : α → List Value} {size B : Nat} {w : World} {A : Option Addr} {xs : List α} (hl : ∀ a, (f a).length = size) (h : Rd w B A (xs.flatMap f)) (hs : 0 < size) {k : Nat} (hk : k < xs.length) :
    ∃ b o, A = some ⟨b, o, none⟩ ∧ b < B ∧ ∀ j u, (f xs[k])[j]? = some u → w.cell? ⟨b, o + k * size + j, none⟩ = some u := by
  have hx : xs[k]? = some xs[k] := List.getElem?_eq_getElem hk
  have h0 := flatMap_at f size hl xs k _ hx
  obtain ⟨b, o, hA, hb, hc⟩ := h (fun e => by
    have := h0 0 hs
    rw [e] at this
    have hx := hl xs[k]
    cases hf : f xs[k] with
    | nil => rw [hf] at hx; simp at hx; omega
    | cons u r => rw [hf] at this; simp at this)
  refine ⟨b, o, hA, hb, fun j u hu => ?_⟩
  rw [Nat.add_assoc]
  refine hc _ _ ?_
  rw [h0 j (by have := (List.getElem?_eq_some_iff.1 hu).1; rw [hl] at this; exact this)]
  exact hu
theorem u64_wrap (x : Int) : ∃ k : Nat, IntKind.u64.wrap x = (k : Int) ∧ k < 18446744073709551616 := by
  refine ⟨(IntKind.u64.wrap x).toNat, ?_, ?_⟩ <;> rw [IntKind.wrap_u64] <;> omega
theorem bad_num {w : World} {B gr : Nat} {bs : List UInt8} {r : Option (Nat × List UInt8)} {e : Ending} {w' : World} (h : NumPost w B gr bs (ifGood true r) e w') : e = .returned (.int .u64 0) ∧ RdrAt w' B gr bs true ∧ Frm (fun k => k = gr) w w' := h
theorem bad_int {w : World} {B gr : Nat} {bs : List UInt8} {r : Option (Int × List UInt8)} {e : Ending} {w' : World} (h : IntPost w B gr bs (ifGood true r) e w') : e = .returned (.int .i64 0) ∧ RdrAt w' B gr bs true ∧ Frm (fun k => k = gr) w w' := h
theorem bad_text {w : World} {B gr : Nat} {bs : List UInt8} {r : Option (List UInt8 × List UInt8)} {e : Ending} {w' : World} (h : TextPost w B gr bs (ifGood true r) e w') : ∃ A cap, e = .returned (.slice A 0 cap) ∧ RdrAt w' B gr bs true ∧ Frm (fun k => k = gr) w w' := by
  obtain ⟨v, t, rfl, ht, hs, h1, h2⟩ := h
  have ht' : t = [] := ht
  subst ht'
  obtain ⟨A, cap, hv, _⟩ := hs.shape
  exact ⟨A, cap, by rw [hv]; rfl, h1, h2⟩
end Go.Proofs.Ytbngokalmfodiaa

/- Dn1, Dn2. (Put together by mg.py.) -/
import Derived.Test.YtlceembcehokoaaNet5
import Derived.Test.YtlceembcehokoaaRr
import Derived.Test.YtlceembcehokoaaCa
namespace Go.Proofs.Ytlceembcehokoaa
open Go.RowKit ReadM
set_option linter.unusedVariables false

abbrev RS : Type := List UInt8 × Bool
def rd1 {α : Type} (z : α) (f : List UInt8 → Option (α × List UInt8)) (s : RS) : α × RS :=
  if s.2 = true then (z, s) else match f s.1 with
    | some x => (x.1, (x.2, false))
    | none => (z, (s.1, true))
def rdn (most : Nat) (s : RS) : Nat × RS := rd1 0 (numRes most) s
def rdi (s : RS) : Int × RS := rd1 0 (intRes (-1099511627776) 1099511627776) s
def rdt (most : Int) (s : RS) : List UInt8 × RS := rd1 [] (textRes most) s
def wholeS (s : RS) : Bool := !s.2 && s.1.isEmpty
theorem rd1_val {α : Type} (z : α) (f : List UInt8 → Option (α × List UInt8)) (s : RS) : (match ifGood s.2 (f s.1) with | some x => x.1 | none => z) = (rd1 z f s).1 := by
  obtain ⟨bs, bad⟩ := s
  cases bad with
  | true => rfl
  | false =>
    unfold rd1 ifGood
    dsimp only
    cases f bs <;> rfl
theorem rd1_rest {α : Type} (z : α) (f : List UInt8 → Option (α × List UInt8)) (s : RS) : (match ifGood s.2 (f s.1) with | some x => x.2 | none => s.1) = (rd1 z f s).2.1 := by
  obtain ⟨bs, bad⟩ := s
  cases bad with
  | true => rfl
  | false =>
    unfold rd1 ifGood
    dsimp only
    cases f bs <;> rfl
theorem rd1_bad {α : Type} (z : α) (f : List UInt8 → Option (α × List UInt8)) (s : RS) : (ifGood s.2 (f s.1)).isNone = (rd1 z f s).2.2 := by
  obtain ⟨bs, bad⟩ := s
  cases bad with
  | true => rfl
  | false =>
    unfold rd1 ifGood
    dsimp only
    cases f bs <;> rfl
theorem numRes_some {most : Nat} {bs : List UInt8} {x : Nat × List UInt8} (h : numRes most bs = some x) : x.1 ≤ most ∧ x.2.length ≤ bs.length := by
  unfold numRes at h
  split at h
  · rename_i hd
    split at h
    · injection h with h
      subst h
      rename_i hm
      exact ⟨hm, Nat.le_of_lt (dec_len hd)⟩
    · cases h
  · cases h
theorem intRes_some {lo hi : Int} {bs : List UInt8} {x : Int × List UInt8} (h : intRes lo hi bs = some x) : (lo ≤ x.1 ∧ x.1 ≤ hi) ∧ x.2.length ≤ bs.length := by
  unfold intRes at h
  split at h
  · rename_i hd
    split at h
    · injection h with h
      subst h
      rename_i hm
      exact ⟨⟨hm.2.1, hm.2.2⟩, Nat.le_of_lt (dec_len hd)⟩
    · cases h
  · cases h
theorem textRes_some {most : Int} {bs : List UInt8} {x : List UInt8 × List UInt8} (h : textRes most bs = some x) : (x.1.length : Int) ≤ most ∧ x.2.length ≤ bs.length ∧ x.1.length ≤ bs.length := by
  unfold textRes at h
  split at h
  · rename_i hd
    split at h
    · injection h with h
      subst h
      rename_i hm
      have := dec_len hd
      refine ⟨?_, ?_, ?_⟩
      · rw [List.length_take]; omega
      · rw [List.length_drop]; omega
      · rw [List.length_take]; omega
    · cases h
  · cases h
theorem rd1_len {α : Type} {z : α} {f : List UInt8 → Option (α × List UInt8)} (hf : ∀ bs x, f bs = some x → x.2.length ≤ bs.length) (s : RS) : (rd1 z f s).2.1.length ≤ s.1.length := by
  unfold rd1
  split
  · exact Nat.le_refl _
  · split
    · rename_i x hx
      exact hf _ _ hx
    · exact Nat.le_refl _
theorem rdn_len (most : Nat) (s : RS) : (rdn most s).2.1.length ≤ s.1.length := rd1_len (fun _ _ h => (numRes_some h).2) s
theorem rdi_len (s : RS) : (rdi s).2.1.length ≤ s.1.length := rd1_len (fun _ _ h => (intRes_some h).2) s
theorem rdt_len (most : Int) (s : RS) : (rdt most s).2.1.length ≤ s.1.length := rd1_len (fun _ _ h => (textRes_some h).2.1) s
theorem rdn_le (most : Nat) (s : RS) : (rdn most s).1 ≤ most := by
  unfold rdn rd1
  split
  · exact Nat.zero_le _
  · split
    · rename_i x hx
      exact (numRes_some hx).1
    · exact Nat.zero_le _
theorem rdi_in (s : RS) : -1099511627776 ≤ (rdi s).1 ∧ (rdi s).1 ≤ 1099511627776 := by
  unfold rdi rd1
  split
  · exact ⟨by show (-1099511627776 : Int) ≤ 0; omega, by show (0 : Int) ≤ 1099511627776; omega⟩
  · split
    · rename_i x hx
      exact (intRes_some hx).1
    · exact ⟨by show (-1099511627776 : Int) ≤ 0; omega, by show (0 : Int) ≤ 1099511627776; omega⟩
theorem rdt_le {most : Int} (h0 : 0 ≤ most) (s : RS) : ((rdt most s).1.length : Int) ≤ most := by
  unfold rdt rd1
  split
  · simpa using h0
  · split
    · rename_i x hx
      exact (textRes_some hx).1
    · simpa using h0
/-! ### The program's -/
def PNum (w : World) (g : Nat) (x : Value) (t : RS) (e : Ending) (w' : World) : Prop := e = .returned x ∧ RdrAt w' g g t.1 t.2 ∧ Frm (fun k => k = g) w w'
theorem pNum (w : World) (g : Nat) (s : RS) (most : Nat) (hm : most < 18446744073709551616) (h : RdrAt w g g s.1 s.2) :
    Calls Try.prog 53 #[.pointer (some ⟨g, 0, none⟩), .int .u64 (most : Int)] w fun e w' => PNum w g (.int .u64 ((rdn most s).1 : Int)) (rdn most s).2 e w' := by
  refine (readNumber_any w g g s.1 s.2 most hm h).mono ?_
  rintro e w' ⟨h1, h2, h3⟩
  obtain ⟨bs, bad⟩ := s
  cases bad with
  | true => exact ⟨h1, h2, h3⟩
  | false =>
    dsimp only at h1 h2
    rw [show ifGood false (numRes most bs) = numRes most bs from rfl] at h1 h2
    unfold rdn rd1
    dsimp only
    rw [if_neg (by simp)]
    cases hr : numRes most bs with
    | none => rw [hr] at h1 h2; exact ⟨h1, h2, h3⟩
    | some x => rw [hr] at h1 h2; exact ⟨h1, h2, h3⟩
theorem pInt (w : World) (g : Nat) (s : RS) (h : RdrAt w g g s.1 s.2) :
    Calls Try.prog 56 #[.pointer (some ⟨g, 0, none⟩), .int .i64 (-1099511627776), .int .i64 1099511627776] w fun e w' => PNum w g (.int .i64 (rdi s).1) (rdi s).2 e w' := by
  refine (readInt_any w g g s.1 s.2 (-1099511627776) 1099511627776 h).mono ?_
  rintro e w' ⟨h1, h2, h3⟩
  obtain ⟨bs, bad⟩ := s
  cases bad with
  | true => exact ⟨h1, h2, h3⟩
  | false =>
    dsimp only at h1 h2
    rw [show ifGood false (intRes (-1099511627776) 1099511627776 bs) = intRes (-1099511627776) 1099511627776 bs from rfl] at h1 h2
    unfold rdi rd1
    dsimp only
    rw [if_neg (by simp)]
    cases hr : intRes (-1099511627776) 1099511627776 bs with
    | none => rw [hr] at h1 h2; exact ⟨h1, h2, h3⟩
    | some x => rw [hr] at h1 h2; exact ⟨h1, h2, h3⟩
def PText (w : World) (g : Nat) (x : List UInt8) (t : RS) (e : Ending) (w' : World) : Prop :=
  ∃ v, e = .returned v ∧ Sl w' w.heap.size 5 1 v x.length (x.map bv) ∧ RdrAt w' g g t.1 t.2 ∧ Frm (fun k => k = g) w w'
theorem pText (w : World) (g : Nat) (s : RS) (most : Int) (hmx : most ≤ 9223372036854775807) (hbl : s.1.length ≤ 140737488355328) (h : RdrAt w g g s.1 s.2) :
    Calls Try.prog 57 #[.pointer (some ⟨g, 0, none⟩), .int .i64 most] w fun e w' => PText w g (rdt most s).1 (rdt most s).2 e w' := by
  refine (readText_any w g g s.1 s.2 most hmx hbl h).mono ?_
  rintro e w' ⟨v, t, h1, h0, hs, h2, h3⟩
  obtain ⟨bs, bad⟩ := s
  cases bad with
  | true => (
    have e : t = [] := h0
    rw [e] at hs
    exact ⟨v, h1, hs, h2, h3⟩)
  | false =>
    dsimp only at h0 h2
    rw [show ifGood false (textRes most bs) = textRes most bs from rfl] at h0 h2
    unfold rdt rd1
    dsimp only
    rw [if_neg (by simp)]
    cases hr : textRes most bs with
    | none => rw [hr] at h0 h2; (have e : t = [] := h0); rw [e] at hs; exact ⟨v, h1, hs, h2, h3⟩
    | some x => rw [hr] at h0 h2; (have e : t = x.1 := h0); rw [e] at hs; exact ⟨v, h1, hs, h2, h3⟩
theorem pWhole (w : World) (g : Nat) (s : RS) (h : RdrAt w g g s.1 s.2) :
    Calls Try.prog 59 #[.pointer (some ⟨g, 0, none⟩)] w fun e w' => e = .returned (.bool (wholeS s)) ∧ w = w' := whole_any w g g s.1 s.2 h
/-! ### The document's -/
def DocAt (w : World) (B g : Nat) (s : RS) : Prop := ∃ bs at_, RefAt w B g bs at_ s.2 ∧ at_ ≤ bs.length ∧ bs.length ≤ 140737488355328 ∧ (s.2 = false → s.1 = bs.drop at_)
theorem DocAt.frm {w w' : World} {B g : Nat} {s : RS} {S : Nat → Prop} (h : DocAt w B g s) (hf : Frm S w w') (hg : ¬ S g) (hS : ∀ k, k < B → ¬ S k) : DocAt w' B g s := by
  obtain ⟨bs, a, h1, h2⟩ := h
  exact ⟨bs, a, h1.frm hf hg hS, h2⟩
theorem DocAt.fresh {w w' : World} {B g : Nat} {s : RS} (h : DocAt w B g s) (F : Fresh w w') : DocAt w' B g s := h.frm F (fun f => f) (fun _ _ f => f)
theorem DocAt.lt {w : World} {B g : Nat} {s : RS} (h : DocAt w B g s) : g < w.heap.size := by
  obtain ⟨_, _, h, _⟩ := h; exact h.lt
theorem DocAt.ge {w : World} {B g : Nat} {s : RS} (h : DocAt w B g s) : B ≤ g := by
  obtain ⟨_, _, ⟨_, _, _, _, _, _, h⟩, _⟩ := h; exact h
theorem DocAt.blk {w : World} {B g : Nat} {s : RS} (h : DocAt w B g s) : ∃ cs, Blk w g 93 cs := by
  obtain ⟨_, _, ⟨_, _, h, _⟩, _⟩ := h; exact ⟨_, h⟩
/-- behind a reading -/
theorem DocAt.step {α : Type} {z : α} {f : List UInt8 → Option (α × List UInt8)} {w w' : World} {B g : Nat} {s : RS} {bs : List UInt8} {a : Nat} (hl : bs.length ≤ 140737488355328) (he : s.2 = false → s.1 = bs.drop a)
    (h : StepTo w B g bs ((ifGood s.2 (f (bs.drop a))).map (·.2)) w') : DocAt w' B g (rd1 z f s).2 ∧ Frm (fun k => k = g) w w' := by
  obtain ⟨at', h1, h2, h3, h4⟩ := h
  obtain ⟨b, bad⟩ := s
  refine ⟨⟨bs, at', ?_, h1, hl, ?_⟩, h4⟩
  · cases bad with
    | true => exact h2
    | false =>
      have e := he rfl
      dsimp only at e
      subst e
      have := rd1_bad z f (bs.drop a, false)
      dsimp only at this
      rw [← this]
      rw [Option.isNone_map] at h2
      exact h2
  · cases bad with
    | true =>
      intro hh
      unfold rd1 at hh
      cases hh
    | false =>
      have e := he rfl
      dsimp only at e
      subst e
      intro hh
      unfold rd1 at hh ⊢
      dsimp only [ifGood] at hh ⊢ h3
      rw [if_neg (by simp)] at hh ⊢
      cases hr : f (bs.drop a) with
      | none => rw [hr] at hh; cases hh
      | some x =>
        rw [hr] at h3
        exact h3 x.2 rfl
theorem DocAt.val {α : Type} {z : α} {f : List UInt8 → Option (α × List UInt8)} {s : RS} {bs : List UInt8} {a : Nat} (he : s.2 = false → s.1 = bs.drop a) :
    (s.2 = true ∧ (rd1 z f s).1 = z) ∨ (s.2 = false ∧ f (bs.drop a) = none ∧ (rd1 z f s).1 = z) ∨ (∃ x, s.2 = false ∧ f (bs.drop a) = some x ∧ (rd1 z f s).1 = x.1) := by
  obtain ⟨b, bad⟩ := s
  cases bad with
  | true => exact .inl ⟨rfl, rfl⟩
  | false =>
    have e := he rfl
    dsimp only at e
    subst e
    unfold rd1
    dsimp only
    rw [if_neg (by simp)]
    cases hr : f (bs.drop a) with
    | none => exact .inr (.inl ⟨rfl, rfl, rfl⟩)
    | some x => exact .inr (.inr ⟨x, rfl, rfl, rfl⟩)
def DNum (w : World) (B g : Nat) (x : Value) (t : RS) (e : Ending) (w' : World) : Prop := e = .returned x ∧ DocAt w' B g t ∧ Frm (fun k => k = g) w w'
theorem dNum (w : World) (B g : Nat) (s : RS) (most : Nat) (h : DocAt w B g s) :
    Calls Try.prog 61 #[.pointer (some ⟨g, 0, none⟩), .int .u64 (most : Int)] w fun e w' => DNum w B g (.int .u64 ((rdn most s).1 : Int)) (rdn most s).2 e w' := by
  obtain ⟨bs, a, h1, h2, h3, h4⟩ := h
  refine (rNumber_any w B g bs a s.2 most h2 h3 h1).mono ?_
  rintro e w' ⟨k1, k2⟩
  obtain ⟨k3, k4⟩ := DocAt.step (z := 0) (f := numRes most) h3 h4 k2
  refine ⟨?_, k3, k4⟩
  rcases DocAt.val (z := 0) (f := numRes most) h4 with ⟨v1, v2⟩ | ⟨v1, v2, v3⟩ | ⟨x, v1, v2, v3⟩
  · rw [v1] at k1; exact k1.trans (congrArg (fun n : Nat => Ending.returned (.int .u64 (n : Int))) v2.symm)
  · rw [v1, v2] at k1; exact k1.trans (congrArg (fun n : Nat => Ending.returned (.int .u64 (n : Int))) v3.symm)
  · rw [v1, v2] at k1; exact k1.trans (congrArg (fun n : Nat => Ending.returned (.int .u64 (n : Int))) v3.symm)
theorem dInt (w : World) (B g : Nat) (s : RS) (h : DocAt w B g s) :
    Calls Try.prog 62 #[.pointer (some ⟨g, 0, none⟩), .int .i64 (-1099511627776), .int .i64 1099511627776] w fun e w' => DNum w B g (.int .i64 (rdi s).1) (rdi s).2 e w' := by
  obtain ⟨bs, a, h1, h2, h3, h4⟩ := h
  refine (rInt_any w B g bs a s.2 (-1099511627776) 1099511627776 h2 h3 h1).mono ?_
  rintro e w' ⟨k1, k2⟩
  obtain ⟨k3, k4⟩ := DocAt.step (z := 0) (f := intRes (-1099511627776) 1099511627776) h3 h4 k2
  refine ⟨?_, k3, k4⟩
  rcases DocAt.val (z := 0) (f := intRes (-1099511627776) 1099511627776) h4 with ⟨v1, v2⟩ | ⟨v1, v2, v3⟩ | ⟨x, v1, v2, v3⟩
  · rw [v1] at k1; exact k1.trans (congrArg (fun n : Int => Ending.returned (.int .i64 n)) v2.symm)
  · rw [v1, v2] at k1; exact k1.trans (congrArg (fun n : Int => Ending.returned (.int .i64 n)) v3.symm)
  · rw [v1, v2] at k1; exact k1.trans (congrArg (fun n : Int => Ending.returned (.int .i64 n)) v3.symm)
def DText (w : World) (B g : Nat) (x : List UInt8) (t : RS) (e : Ending) (w' : World) : Prop :=
  ∃ v, e = .returned v ∧ Sl w' w.heap.size 5 1 v x.length (x.map bv) ∧ DocAt w' B g t ∧ Frm (fun k => k = g) w w'
theorem dText (w : World) (B g : Nat) (s : RS) (most : Int) (hmx : most ≤ 9223372036854775807) (h : DocAt w B g s) :
    Calls Try.prog 63 #[.pointer (some ⟨g, 0, none⟩), .int .i64 most] w fun e w' => DText w B g (rdt most s).1 (rdt most s).2 e w' := by
  obtain ⟨bs, a, h1, h2, h3, h4⟩ := h
  refine (rText_any w B g bs a s.2 most hmx h2 h3 h1).mono ?_
  rintro e w' ⟨v, t, k1, k0, ks, k2⟩
  obtain ⟨k3, k4⟩ := DocAt.step (z := []) (f := textRes most) h3 h4 k2
  have k0' : t = (rd1 [] (textRes most) s).1 := by
    rcases DocAt.val (z := []) (f := textRes most) h4 with ⟨v1, v2⟩ | ⟨v1, v2, v3⟩ | ⟨x, v1, v2, v3⟩
    · rw [v1] at k0; exact k0.trans v2.symm
    · rw [v1, v2] at k0; exact k0.trans v3.symm
    · rw [v1, v2] at k0; exact k0.trans v3.symm
  subst k0'
  exact ⟨v, k1, ks, k3, k4⟩
theorem dWhole (w : World) (B g : Nat) (s : RS) (h : DocAt w B g s) :
    Calls Try.prog 64 #[.pointer (some ⟨g, 0, none⟩)] w fun e w' => e = .returned (.bool (wholeS s)) ∧ ∃ n, w' = w.drewN n := by
  obtain ⟨bs, a, h1, h2, h3, h4⟩ := h
  have e : refWholeB bs a s.2 = wholeS s := by
    obtain ⟨b, bad⟩ := s
    cases bad with
    | true => rfl
    | false =>
      have e := h4 rfl
      dsimp only at e
      subst e
      unfold refWholeB wholeS
      dsimp only
      rw [Bool.not_false, Bool.true_and, Bool.true_and]
      rcases Nat.lt_or_ge a bs.length with h | h
      · rw [decide_eq_false (by omega)]
        cases hd : bs.drop a with
        | nil =>
          have := List.length_drop (i := a) (l := bs)
          rw [hd] at this
          simp at this
          omega
        | cons x r => rfl
      · rw [decide_eq_true (by omega), List.drop_eq_nil_of_le h]
        rfl
  rw [← e]
  exact rWhole_any w B g bs a s.2 h1
end Go.Proofs.Ytlceembcehokoaa
namespace Go.Proofs.Ytlceembcehokoaa
open Go.RowKit ReadM
set_option linter.unusedVariables false
set_option maxRecDepth 100000

theorem info_int2 : (Try.prog.info? 3).map (fun i => (i.zero, i.size, i.bytes)) = some (some (.int .i64 0), 1, 8) := by kernel_rfl
/-- so many numbers read, behind those that there are -/
def rlS : Nat → List Int → RS → List Int × RS
  | 0, l, s => (l, s)
  | k + 1, l, s => rlS k (l ++ [((rdn 15 s).1 : Int)]) (rdn 15 s).2
def rlist (s : RS) : List Int × RS := rlS (rdn 15 s).1 [] (rdn 15 s).2
theorem rlS_len : ∀ (k : Nat) (l : List Int) (s : RS), (rlS k l s).1.length = l.length + k ∧ (rlS k l s).2.1.length ≤ s.1.length
  | 0, l, s => ⟨rfl, Nat.le_refl _⟩
  | k + 1, l, s => by
    have h := rlS_len k (l ++ [((rdn 15 s).1 : Int)]) (rdn 15 s).2
    have h2 := rdn_len 15 s
    rw [List.length_append, List.length_singleton] at h
    unfold rlS
    omega
theorem rlist_len (s : RS) : (rlist s).1.length ≤ 15 ∧ (rlist s).2.1.length ≤ s.1.length := by
  have h := rlS_len (rdn 15 s).1 [] (rdn 15 s).2
  have h1 := rdn_le 15 s
  have h2 := rdn_len 15 s
  rw [List.length_nil] at h
  unfold rlist
  omega

def ListPost (w : World) (g : Nat) (l : List Int) (R : World → Prop) (e : Ending) (w' : World) : Prop :=
  ∃ v, e = .returned v ∧ Sl w' w.heap.size 3 1 v l.length (ivs l) ∧ R w' ∧ Frm (fun k => k = g) w w'
set_option maxHeartbeats 4000000 in
theorem keepNodes_any (w : World) (p g : Nat) (s : RS) (t : TypeId) (ht : t ≠ 117) (hp : Blk w p t #[.pointer (some ⟨g, 0, none⟩)]) (h : RdrAt w g g s.1 s.2) :
    Calls Try.prog 98 #[.pointer (some ⟨p, 0, none⟩)] w fun e w' => ListPost w g (rlist s).1 (fun w' => RdrAt w' g g (rlist s).2.1 (rlist s).2.2) e w' := by
  obtain ⟨i0, hi, hz0, hz1, hz2⟩ := info_parts info_int2
  have HR := Lib.hid h
  have hgl : g < w.heap.size := by obtain ⟨_, hb⟩ := RdrAt.blk h; exact hb.lt
  have HP := Lib.hid hp
  have HT := Lib.hid ht
  have hpl : p < w.heap.size := hp.lt
  have c0 : w.cell? ⟨p, 0, none⟩ = some (.pointer (some ⟨g, 0, none⟩)) := hp.cell 0
  have hn15 := rdn_le 15 s
  have HDF : Hid (rlist s = rlS (rdn 15 s).1 [] (rdn 15 s).2) := Lib.hid rfl
  have HN := Lib.hid (pNum w g s 15 (by omega) h)
  obtain ⟨n, hn⟩ : ∃ n, n = (rdn 15 s).1 := ⟨_, rfl⟩
  obtain ⟨s1, hs1⟩ : ∃ s1, s1 = (rdn 15 s).2 := ⟨_, rfl⟩
  rw [← hn] at hn15 HN HDF
  rw [← hs1] at HN HDF
  clear h hp ht hn hs1
  go_enter Try.func98, Try.ntmps98
  go_wp2_with fail
  refine HN.out.mono ?_
  rintro e w1 ⟨rfl, hr1, f1⟩
  have HR1 := Lib.hid hr1
  have HF1 := Lib.hid f1
  have HP1 : Hid (Blk w1 p t #[.pointer (some ⟨g, 0, none⟩)]) := Lib.hid (by obtain ⟨_, hb⟩ := RdrAt.blk HR.out; exact HP.out.frm f1 (HP.out.apart hb HT.out))
  clear hr1 f1 c0
  go_wp2_with fail
  go_loopw [2, 5] (fun v2 v5 wr => ∃ (i : Nat) (l : List Int) (z : RS), i ≤ n ∧ v5 = .int .u64 (i : Int) ∧ l.length = i ∧ rlist s = rlS (n - i) l z ∧ Sl wr w.heap.size 3 1 v2 l.length (ivs l) ∧ RdrAt wr g g z.1 z.2 ∧ Frm (fun k => k = g) w wr ∧ Blk wr p t #[.pointer (some ⟨g, 0, none⟩)]) (fun _ v5 _ => n - (intOf v5).toNat)
  case atStart => exact ⟨0, [], s1, by omega, rfl, rfl, by rw [HDF.out]; rfl, Sl.nil _ _ _ _, HR1.out, HF1.out, HP1.out⟩
  case round =>
    clear HR1 HF1 HP1
    obtain ⟨i, l, z, hin, rfl, hli, hd, hs, hr, hf, hpb⟩ := hrel
    have hi0 : (0 : Int) ≤ (i : Int) := by omega
    have HLI := Lib.hid hli
    have hll : l.length ≤ 15 := by omega
    have HD := Lib.hid hd
    clear hli
    have HS := Lib.hid hs
    have HRR := Lib.hid hr
    have HF := Lib.hid hf
    obtain ⟨AL, cl, rfl, _⟩ := hs.shape
    by_cases hlt : i < n
    · have hlti : (i : Int) < (n : Int) := by omega
      have hx15 := rdn_le 15 z
      have HNX := Lib.hid (pNum wr g z 15 (by omega) hr)
      have HST : Hid (rlS (n - i) l z = rlS (n - (i + 1)) (l ++ [((rdn 15 z).1 : Int)]) (rdn 15 z).2) := Lib.hid (by
        rw [show n - i = (n - (i + 1)) + 1 by omega, rlS])
      have HPB := Lib.hid hpb
      have c1 : wr.cell? ⟨p, 0, none⟩ = some (.pointer (some ⟨g, 0, none⟩)) := hpb.cell 0
      obtain ⟨x, hx⟩ : ∃ x, x = (rdn 15 z).1 := ⟨_, rfl⟩
      obtain ⟨z2, hz2'⟩ : ∃ z2, z2 = (rdn 15 z).2 := ⟨_, rfl⟩
      rw [← hx] at hx15 HNX HST
      rw [← hz2'] at HNX HST
      have hwx : IntKind.i64.wrap (x : Int) = (x : Int) := IntWalk.i64_in _ (by omega)
      clear hd hs hr hf hx hz2' hpb
      go_wp2_with fail
      refine HNX.out.mono ?_
      rintro e w3 ⟨rfl, hr3, f3⟩
      have HR3 := Lib.hid hr3
      have HSA : Hid (Sl (w3.alloc (.cells #[.int .i64 (x : Int)] 3)) w.heap.size 3 1 (.slice AL l.length cl) l.length (ivs l)) := Lib.hid ((HS.out.frm f3 (fun k hk e => by have := (HS.out.lt k hk).1; omega)).alloc _)
      have HFA : Hid (Frm (fun k => k = g) w (w3.alloc (.cells #[.int .i64 (x : Int)] 3))) := Lib.hid ((HF.out.trans f3).alloc _)
      have R := Lib.hid (rd_one w3 (.int .i64 (x : Int)) 3)
      have HP3 : Hid (Blk w3 p t #[.pointer (some ⟨g, 0, none⟩)]) := Lib.hid (by obtain ⟨_, hb⟩ := RdrAt.blk HRR.out; exact HPB.out.frm f3 (HPB.out.apart hb HT.out))
      clear hr3 f3 c1
      go_wp2_with (at_builtin; refine wpList_append_sl _ rfl (.tmp 7) (.tmp 11) _ rfl w.heap.size 3 i0 _ 1 8 Try.underlying23 hi hz0 hz1 hz2 rfl (by omega) _ l.length _ rfl HSA.out _ _ 1 _ _ rfl (by rfl) R.out (fun u hu => by simp at hu; subst hu; rfl) (by unfold maxLen; omega) (by omega) HFA.out.size ?_; intro v5 w5 hs5 hf5 ha5)
      have HS5 : Hid (Sl w5 w.heap.size 3 1 v5 (l ++ [(x : Int)]).length (ivs (l ++ [(x : Int)]))) := Lib.hid (by
        rw [List.length_append, List.length_singleton]
        unfold ivs
        rw [List.map_append]
        exact hs5)
      have HF5 : Hid (Frm (fun k => k = g) w w5) := Lib.hid (HFA.out.trans' hf5 (fun k hk e => by have := (HSA.out.lt k e).1; omega))
      have HR5 : Hid (RdrAt w5 g g z2.1 z2.2) := Lib.hid ((RdrAt.frm HR3.out ((Frm.refl (fun _ => False) w3).alloc _) (fun f => f) (fun _ _ f => f)).frm hf5 (fun e => by have := (HSA.out.lt _ e).1; omega) (fun k hk e => by have := (HSA.out.lt k e).1; omega))
      have HP5 : Hid (Blk w5 p t #[.pointer (some ⟨g, 0, none⟩)]) := Lib.hid ((HP3.out.alloc _).frm hf5 (fun e => by have := (HSA.out.lt _ e).1; omega))
      clear hs5 hf5 ha5
      go_wp2_with fail
      go_roundw
      case rel => exact ⟨i + 1, l ++ [(x : Int)], z2, by omega, by go_num, by rw [List.length_append, HLI.out]; rfl, by rw [HD.out, HST.out], HS5.out, HR5.out, HF5.out, HP5.out⟩
      case measure => simp [intOf]; omega
    · obtain rfl : i = n := by omega
      have hlti : ¬ (i : Int) < (i : Int) := by omega
      have HE : Hid (rlist s = (l, z)) := Lib.hid (by rw [HD.out, Nat.sub_self]; rfl)
      clear hd hs hr hf hpb
      go_wp2_with fail
      go_ret
      unfold ListPost
      rw [HE.out]
      exact ⟨_, rfl, HS.out, HRR.out, HF.out⟩
set_option maxHeartbeats 4000000 in
theorem refList_any (w : World) (B g : Nat) (s : RS) (h : DocAt w B g s) :
    Calls Try.prog 100 #[.pointer (some ⟨g, 0, none⟩)] w fun e w' => ListPost w g (rlist s).1 (fun w' => DocAt w' B g (rlist s).2) e w' := by
  obtain ⟨i0, hi, hz0, hz1, hz2⟩ := info_parts info_int2
  have HR := Lib.hid h
  have hgl : g < w.heap.size := h.lt
  have hBg : B ≤ g := h.ge
  have hn15 := rdn_le 15 s
  have HDF : Hid (rlist s = rlS (rdn 15 s).1 [] (rdn 15 s).2) := Lib.hid rfl
  have HN := Lib.hid (dNum w B g s 15 h)
  obtain ⟨n, hn⟩ : ∃ n, n = (rdn 15 s).1 := ⟨_, rfl⟩
  obtain ⟨s1, hs1⟩ : ∃ s1, s1 = (rdn 15 s).2 := ⟨_, rfl⟩
  rw [← hn] at hn15 HN HDF
  rw [← hs1] at HN HDF
  clear h hn hs1
  go_enter Try.func100, Try.ntmps100
  go_wp2_with fail
  refine HN.out.mono ?_
  rintro e w1 ⟨rfl, hr1, f1⟩
  have HR1 := Lib.hid hr1
  have HF1 := Lib.hid f1
  clear hr1 f1
  go_wp2_with fail
  go_loopw [4, 5] (fun v4 v5 wr => ∃ (i : Nat) (l : List Int) (z : RS), i ≤ n ∧ v5 = .int .u64 (i : Int) ∧ l.length = i ∧ rlist s = rlS (n - i) l z ∧ Sl wr w.heap.size 3 1 v4 l.length (ivs l) ∧ DocAt wr B g z ∧ Frm (fun k => k = g) w wr) (fun _ v5 _ => n - (intOf v5).toNat)
  case atStart => exact ⟨0, [], s1, by omega, rfl, rfl, by rw [HDF.out]; rfl, Sl.nil _ _ _ _, HR1.out, HF1.out⟩
  case round =>
    clear HR1 HF1
    obtain ⟨i, l, z, hin, rfl, hli, hd, hs, hr, hf⟩ := hrel
    have hi0 : (0 : Int) ≤ (i : Int) := by omega
    have HLI := Lib.hid hli
    have hll : l.length ≤ 15 := by omega
    have HD := Lib.hid hd
    clear hli
    have HS := Lib.hid hs
    have HRR := Lib.hid hr
    have HF := Lib.hid hf
    obtain ⟨AL, cl, rfl, _⟩ := hs.shape
    by_cases hlt : i < n
    · have hlti : (i : Int) < (n : Int) := by omega
      have hx15 := rdn_le 15 z
      have HNX := Lib.hid (dNum wr B g z 15 hr)
      have HST : Hid (rlS (n - i) l z = rlS (n - (i + 1)) (l ++ [((rdn 15 z).1 : Int)]) (rdn 15 z).2) := Lib.hid (by
        rw [show n - i = (n - (i + 1)) + 1 by omega, rlS])
      obtain ⟨x, hx⟩ : ∃ x, x = (rdn 15 z).1 := ⟨_, rfl⟩
      obtain ⟨z2, hz2'⟩ : ∃ z2, z2 = (rdn 15 z).2 := ⟨_, rfl⟩
      rw [← hx] at hx15 HNX HST
      rw [← hz2'] at HNX HST
      have hwx : IntKind.i64.wrap (x : Int) = (x : Int) := IntWalk.i64_in _ (by omega)
      clear hd hs hr hf hx hz2'
      go_wp2_with fail
      refine HNX.out.mono ?_
      rintro e w3 ⟨rfl, hr3, f3⟩
      have HR3 := Lib.hid hr3
      have HSA : Hid (Sl (w3.alloc (.cells #[.int .i64 (x : Int)] 3)) w.heap.size 3 1 (.slice AL l.length cl) l.length (ivs l)) := Lib.hid ((HS.out.frm f3 (fun k hk e => by have := (HS.out.lt k hk).1; omega)).alloc _)
      have HFA : Hid (Frm (fun k => k = g) w (w3.alloc (.cells #[.int .i64 (x : Int)] 3))) := Lib.hid ((HF.out.trans f3).alloc _)
      have R := Lib.hid (rd_one w3 (.int .i64 (x : Int)) 3)
      clear hr3 f3
      go_wp2_with (at_builtin; refine wpList_append_sl _ rfl (.tmp 13) (.tmp 17) _ rfl w.heap.size 3 i0 _ 1 8 Try.underlying23 hi hz0 hz1 hz2 rfl (by omega) _ l.length _ rfl HSA.out _ _ 1 _ _ rfl (by rfl) R.out (fun u hu => by simp at hu; subst hu; rfl) (by unfold maxLen; omega) (by omega) HFA.out.size ?_; intro v5 w5 hs5 hf5 ha5)
      have HS5 : Hid (Sl w5 w.heap.size 3 1 v5 (l ++ [(x : Int)]).length (ivs (l ++ [(x : Int)]))) := Lib.hid (by
        rw [List.length_append, List.length_singleton]
        unfold ivs
        rw [List.map_append]
        exact hs5)
      have HF5 : Hid (Frm (fun k => k = g) w w5) := Lib.hid (HFA.out.trans' hf5 (fun k hk e => by have := (HSA.out.lt k e).1; omega))
      have HR5 : Hid (DocAt w5 B g z2) := Lib.hid ((HR3.out.fresh ((Frm.refl _ w3).alloc _)).frm hf5 (fun e => by have := (HSA.out.lt _ e).1; omega) (fun k hk e => by have := (HSA.out.lt k e).1; omega))
      clear hs5 hf5 ha5
      go_wp2_with fail
      go_roundw
      case rel => exact ⟨i + 1, l ++ [(x : Int)], z2, by omega, by go_num, by rw [List.length_append, HLI.out]; rfl, by rw [HD.out, HST.out], HS5.out, HR5.out, HF5.out⟩
      case measure => simp [intOf]; omega
    · obtain rfl : i = n := by omega
      have hlti : ¬ (i : Int) < (i : Int) := by omega
      have HE : Hid (rlist s = (l, z)) := Lib.hid (by rw [HD.out, Nat.sub_self]; rfl)
      clear hd hs hr hf
      go_wp2_with fail
      go_ret
      unfold ListPost
      rw [HE.out]
      exact ⟨_, rfl, HS.out, HRR.out, HF.out⟩
end Go.Proofs.Ytlceembcehokoaa

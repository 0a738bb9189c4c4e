/- The program's Decode. -/
import Derived.Test.YthofodjklogfgaaQueue25
import Derived.Test.YthofodjklogfgaaRead6
import Derived.Test.YthofodjklogfgaaRead7
import Derived.Test.YthofodjklogfgaaDecMath
namespace Go.Proofs.Ythofodjklogfgaa
open Go.RowKit QueueM ReadM
attribute [local go_sem] run_store_float

theorem numPost_rdn {w : World} {g : Nat} {s : List UInt8 × Bool} {most : Nat} {e : Ending} {w' : World} (h : NumPost w g g s.1 (ifGood s.2 (numRes most s.1)) e w') :
    e = .returned (.int .u64 ((rdn most s).1 : Int)) ∧ RdrAt w' g g (rdn most s).2.1 (rdn most s).2.2 ∧ Frm (fun k => k = g) w w' := by
  obtain ⟨bs, bad⟩ := s
  obtain ⟨h1, h2, h3⟩ := h
  cases bad with
  | true => exact ⟨h1, h2, h3⟩
  | false =>
    have e1 : ifGood false (numRes most bs) = numRes most bs := rfl
    dsimp only at h1 h2 h3
    rw [e1] at h1 h2
    unfold rdn
    dsimp only
    rw [if_neg (by simp)]
    cases hr : numRes most bs with
    | none => rw [hr] at h1 h2; exact ⟨h1, h2, h3⟩
    | some x => rw [hr] at h1 h2; exact ⟨h1, h2, h3⟩
/-- what the closure number answers -/
def NumC (w : World) (g : Nat) (s : List UInt8 × Bool) (most : Nat) (e : Ending) (w' : World) : Prop :=
  e = .returned (.int .i64 ((rdn most s).1 : Int)) ∧ RdrAt w' g g (rdn most s).2.1 (rdn most s).2.2 ∧ Frm (fun k => k = g) w w'
set_option maxHeartbeats 1000000 in
theorem numberC_any (w : World) (p g : Nat) (s : List UInt8 × Bool) (most : Nat) (hm : (most : Int) ≤ 9223372036854775807) (hp : w.cell? ⟨p, 0, none⟩ = some (.pointer (some ⟨g, 0, none⟩))) (h : RdrAt w g g s.1 s.2) :
    Calls Try.prog 36 #[.int .i64 (most : Int), .pointer (some ⟨p, 0, none⟩)] w fun e w' => NumC w g s most e w' := by
  have HN := Lib.hid ((readNumber_any w g g s.1 s.2 most (by omega) h).mono (fun e w' h => numPost_rdn h))
  have hle := rdn_lt most s
  have hm0 : (0 : Int) ≤ (most : Int) := by omega
  have hw1 : IntKind.u64.wrap (most : Int) = (most : Int) := by rw [IntKind.wrap_u64]; omega
  have hw2 : IntKind.i64.wrap ((rdn most s).1 : Int) = ((rdn most s).1 : Int) := IntWalk.i64_in _ (by omega)
  unfold NumC
  generalize rdn most s = r at HN hle hw2
  obtain ⟨n, t⟩ := r
  dsimp only at HN hle hw2
  clear h
  go_enter Try.func36, Try.ntmps36
  go_wp2_with fail
  refine HN.out.mono ?_
  rintro e w1 ⟨rfl, h1, f1⟩
  have H1 := Lib.hid h1
  have HF1 := Lib.hid f1
  clear h1 f1
  go_wp2_with fail
  go_ret
  exact ⟨rfl, H1.out, HF1.out⟩
/-- the loop's state -/
structure DecInv (w : World) (p g b B : Nat) (v : Value) (l : List Wt) (s : List UInt8 × Bool) (wr : World) : Prop where
  rdr : RdrAt wr g g s.1 s.2
  cell : ∃ t, t ≠ 93 ∧ t ≠ 60 ∧ t ≠ 62 ∧ t ≠ 28 ∧ Blk wr p t #[.pointer (some ⟨g, 0, none⟩)]
  q : IsQ wr B b v l
  low : w.heap.size ≤ g ∧ g < B
  good : QueueM.Good l
  words : Words l
  frm : Fresh w wr
theorem DecInv.fresh {w wr w' : World} {p g b B : Nat} {v : Value} {l : List Wt} {s : List UInt8 × Bool} (h : DecInv w p g b B v l s wr) (F : Fresh wr w') : DecInv w p g b B v l s w' := by
  obtain ⟨t, h1, h2, h3, hw, h4⟩ := h.cell
  exact ⟨h.rdr.frm F (fun f => f) (fun _ _ f => f), ⟨t, h1, h2, h3, hw, h4.frm F (fun f => f)⟩, h.q.fresh F, h.low, h.good, h.words, h.frm.trans F⟩
theorem RdrAt.blk {w : World} {B g : Nat} {bs : List UInt8} {bad : Bool} (h : RdrAt w B g bs bad) : ∃ cs, Blk w g 93 cs := by
  obtain ⟨_, _, h, _⟩ := h; exact ⟨_, h⟩
/-- a reading -/
theorem DecInv.read {w wr w' : World} {p g b B : Nat} {v : Value} {l : List Wt} {s t : List UInt8 × Bool} (h : DecInv w p g b B v l s wr) (hr : RdrAt w' g g t.1 t.2) (F : Frm (fun k => k = g) wr w') : DecInv w p g b B v l t w' := by
  obtain ⟨y, h1, h2, h3, hw, h4⟩ := h.cell
  obtain ⟨cs, hb⟩ := h.rdr.blk
  refine ⟨hr, ⟨y, h1, h2, h3, hw, h4.frm F (h4.apart hb h1)⟩, h.q.frm F (h.q.blk.apart hb (by decide)) (fun k hk e => ?_), h.low, h.good, h.words, h.frm.trans' F (fun k hk e => by have := h.low; omega)⟩
  subst e
  exact h.q.sl.apart hb (by decide) hk
/-- an adding -/
theorem DecInv.add {w wr w' : World} {p g b B : Nat} {v : Value} {l : List Wt} {s : List UInt8 × Bool} (h : DecInv w p g b B v l s wr) {x : Wt} (hx : x.score < 18446744073709551616) (st : StepQ wr B b v (add x l).2 w') : ∃ v', DecInv w p g b B v' (add x l).2 s w' := by
  obtain ⟨v', hq, hf, _⟩ := st
  obtain ⟨y, h1, h2, h3, hw, h4⟩ := h.cell
  obtain ⟨cs, hb⟩ := h.rdr.blk
  have hlow := h.low
  have hge := h.q.ge
  have key : ∀ k, k ≤ g → ¬ (k = b ∨ v.ownBlock = some k) := by
    rintro k hk (e | e)
    · omega
    · have := (h.q.sl.lt k e).1; omega
  refine ⟨v', h.rdr.frm hf (key g (Nat.le_refl _)) (fun k hk => key k (by omega)), ⟨y, h1, h2, h3, hw, h4.frm hf ?_⟩, hq, h.low, h.good.add x, h.words.add hx, h.frm.trans' hf (fun k hk e => key k (by omega) e)⟩
  rintro (e | e)
  · exact h4.apart h.q.blk h2 e
  · exact h.q.sl.apart h4 h3.symm e
theorem DecInv.pcell {w wr : World} {p g b B : Nat} {v : Value} {l : List Wt} {s : List UInt8 × Bool} (h : DecInv w p g b B v l s wr) : wr.cell? ⟨p, 0, none⟩ = some (.pointer (some ⟨g, 0, none⟩)) := by
  obtain ⟨_, _, _, _, _, h4⟩ := h.cell
  exact h4.cell 0
/-- a store into a box of one who waits -/
theorem DecInv.poke {w wr : World} {p g b B : Nat} {v : Value} {l : List Wt} {s : List UInt8 × Bool} (h : DecInv w p g b B v l s wr) {k : Nat} {cs : Array Value} (hk : Blk wr k 28 cs) (hkg : g < k) (i : Nat) (u : Value) : DecInv w p g b B v l s (wr.setCell ⟨k, i, none⟩ u) := by
  obtain ⟨y, h1, h2, h3, hw, h4⟩ := h.cell
  obtain ⟨cs', hb⟩ := h.rdr.blk
  have F : Frm (fun j => j = k) wr (wr.setCell ⟨k, i, none⟩ u) := (Frm.refl (fun j => j = k) wr).setCell (p := ⟨k, i, none⟩) (fun _ => rfl) u
  obtain ⟨A, cap, r1, r2, r3, r4, r5⟩ := h.rdr
  have hlow := h.low
  refine ⟨?_, ⟨y, h1, h2, h3, hw, h4.frm F (h4.apart hk hw)⟩, h.q.frm F (h.q.blk.apart hk (by decide)) (fun j hj e => ?_), h.low, h.good, h.words, h.frm.trans' F (fun j hj e => by omega)⟩
  · refine ⟨A, cap, r1.frm F (r1.apart hk (by decide)), ?_, r3, r4, r5⟩
    exact r2.frm (by have := r1.lt; omega) F (fun q hq hql e => by omega)
  · subst e
    exact h.q.sl.apart hk (by decide) hj
def DecPost (w : World) (res : Option (List Wt)) (e : Ending) (w' : World) : Prop :=
  match res with
  | none => e = .returned (.tuple #[.pointer none, .int .i64 6]) ∧ Fresh w w'
  | some l => ∃ b v, e = .returned (.tuple #[.pointer (some ⟨b, 0, none⟩), .int .i64 0]) ∧ IsQ w' w.heap.size b v l ∧ Fresh w w'
/-- what a loop's end comes to -/
def finP (o : Option (List Wt × (List UInt8 × Bool))) : Option (List Wt) := match o with
  | some x => if wholeS x.2 = true then some x.1 else none
  | none => none
theorem decP_fin (b : List UInt8) : decP b = finP (pdec (rdn 200 (b, false)).1 [] (rdn 200 (b, false)).2) := rfl
theorem fin_no {k : Nat} {l : List Wt} {s : List UInt8 × Bool} {x : Wt} {t : List UInt8 × Bool} (h5 : one5 s = (x, t)) (h : behind l x = true ∨ (add x l).1 ≠ 0) : finP (pdec (k + 1) l s) = none := by
  rw [pdec, h5, if_pos h]
  rfl
theorem fin_on {k : Nat} {l : List Wt} {s : List UInt8 × Bool} {x : Wt} {t : List UInt8 × Bool} (h5 : one5 s = (x, t)) (h1 : behind l x = false) (h2 : (add x l).1 = 0) : finP (pdec (k + 1) l s) = finP (pdec k (add x l).2 t) := by
  rw [pdec, h5, if_neg (by rw [h1, h2]; simp)]
/-- a number by the closure; a number of any size -/
theorem DecInv.num {w wr : World} {p g b B : Nat} {v : Value} {l : List Wt} {s t : List UInt8 × Bool} (h : DecInv w p g b B v l s wr) {most x : Nat} (hr : rdn most s = (x, t)) (hm : (most : Int) ≤ 9223372036854775807) :
    Calls Try.prog 36 #[.int .i64 (most : Int), .pointer (some ⟨p, 0, none⟩)] wr fun e w' => e = .returned (.int .i64 (x : Int)) ∧ DecInv w p g b B v l t w' ∧ Frm (fun k => k = g) wr w' := by
  refine (numberC_any wr p g s most hm h.pcell h.rdr).mono ?_
  rintro e w' ⟨h1, h2, h3⟩
  rw [hr] at h1 h2
  exact ⟨h1, h.read h2 h3, h3⟩
theorem DecInv.num64 {w wr : World} {p g b B : Nat} {v : Value} {l : List Wt} {s t : List UInt8 × Bool} (h : DecInv w p g b B v l s wr) {x : Nat} (hr : rdn 18446744073709551615 s = (x, t)) :
    Calls Try.prog 37 #[.pointer (some ⟨g, 0, none⟩), .int .u64 18446744073709551615] wr fun e w' => e = .returned (.int .u64 (x : Int)) ∧ DecInv w p g b B v l t w' ∧ Frm (fun k => k = g) wr w' := by
  refine (readNumber_any wr g g s.1 s.2 18446744073709551615 (by omega) h.rdr).mono ?_
  intro e w' hp
  obtain ⟨h1, h2, h3⟩ := numPost_rdn hp
  rw [hr] at h1 h2
  exact ⟨h1, h.read h2 h3, h3⟩
end Go.Proofs.Ythofodjklogfgaa

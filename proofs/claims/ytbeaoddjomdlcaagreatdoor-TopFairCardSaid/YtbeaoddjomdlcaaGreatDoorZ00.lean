/- Proved here, for the statement TopFairCardSaid: laws that its walk leans on. It holds with no condition. (Put together and shortened by a program out of many texts: Tk, Mem, Open.) -/
import Derived.Deep.RegionHeld3
import Derived.Lib.Hide
import Derived.WalkKit
import Derived.Deep.Draws
import Derived.Maps.AppendAt
import Derived.ProofKit
import Derived.OpenShut
import Derived.SizedLaws
import Derived.Laws.Cover2
set_option linter.unusedVariables false
set_option linter.unusedSimpArgs false
set_option maxRecDepth 100000
set_option maxHeartbeats 64000000
namespace Go.Proofs.YtbeaoddjomdlcaaGreatDoor
section
theorem zT {α : Type} (l : List α) (i : Nat) (a : α) : (l.toArray).setIfInBounds i a = (l.set i a).toArray := List.setIfInBounds_toArray ..
theorem zZ {α : Type} (a : α) (l : List α) (b : α) : (a :: l).set 0 b = b :: l := rfl
theorem zS {α : Type} (a : α) (l : List α) (n : Nat) (b : α) : (a :: l).set (n + 1) b = a :: l.set n b := rfl
theorem zo {l : List Oper} {i : Nat} {o : Oper} (h : l[i]? = some o) : (List.toArray l)[i]? = some o := by simpa using h
theorem zh {p : Prop} (h : p) : Go.RowKit.Hid p := h
section
variable {P : Program} {ops : Array Oper} {Q : Exit → Act → World → Prop} {md : Region.Mode} {S : World → Prop} {o : Oper} {v : Value} {fuel : Nat} {li : Array Bool} {a : Act} {w : World} {j : Nat}
theorem zt (i : Nat) (hi : ops[i]? = some o) (h : wpAnyH P md ops Q S fuel (li.setIfInBounds i true) (a.put o.dst v) w)
    (hy : ∀ w, S w → (execOp a.eval o).run P w = .ok (.value v) w := by intro w hSw; (try dsimp only at hSw); go_simp; try with_reducible rfl)
    (hQ : ∀ c a w, Q (.panic c) (a.put o.dst v) w → Q (.panic c) a w := by first | exact fun _ _ _ h => h | exact fun _ _ _ h => (by cases h.1))
    (hw : Region.wanted o (yielded ops a.tmps) = true := by rfl) (hs : Region.noSelect ops = true := by kernel_rfl) (hf : Region.free md ops li i = true := by kernel_rfl)
    (hr : (Region.ready md ops li).contains i = true := by kernel_rfl) (hS : S w := by assumption) : wpAnyH P md ops Q S (fuel + 1) li a w :=
  wpAnyH_take hi hs hf hr hQ (.inl ⟨hw, hy⟩) hS h
theorem ztz (hi : ops[0]? = some o) (h : wpAnyH P md ops Q S fuel ((Array.replicate ops.size false).setIfInBounds 0 true) (a.put o.dst v) w)
    (hy : ∀ w, S w → (execOp a.eval o).run P w = .ok (.value v) w := by intro w hSw; (try dsimp only at hSw); go_simp; try with_reducible rfl)
    (hQ : ∀ c a w, Q (.panic c) (a.put o.dst v) w → Q (.panic c) a w := by first | exact fun _ _ _ h => h | exact fun _ _ _ h => (by cases h.1))
    (hw : Region.wanted o (yielded ops a.tmps) = true := by rfl) (hs : Region.noSelect ops = true := by kernel_rfl) (hf : Region.free md ops (Array.replicate ops.size false) 0 = true := by kernel_rfl)
    (hr : (Region.ready md ops (Array.replicate ops.size false)).contains 0 = true := by kernel_rfl) (hS : S w := by assumption) : wpAnyH P md ops Q S (fuel + 1) (Array.replicate ops.size false) a w :=
  wpAnyH_take hi hs hf hr hQ (.inl ⟨hw, hy⟩) hS h
theorem ztn (hi : ops[j + 1]? = some o) (h : wpAnyH P md ops Q S fuel ((li.setIfInBounds j true).setIfInBounds (j + 1) true) (a.put o.dst v) w)
    (hy : ∀ w, S w → (execOp a.eval o).run P w = .ok (.value v) w := by intro w hSw; (try dsimp only at hSw); go_simp; try with_reducible rfl)
    (hQ : ∀ c a w, Q (.panic c) (a.put o.dst v) w → Q (.panic c) a w := by first | exact fun _ _ _ h => h | exact fun _ _ _ h => (by cases h.1))
    (hw : Region.wanted o (yielded ops a.tmps) = true := by rfl) (hs : Region.noSelect ops = true := by kernel_rfl) (hf : Region.free md ops (li.setIfInBounds j true) (j + 1) = true := by kernel_rfl)
    (hr : (Region.ready md ops (li.setIfInBounds j true)).contains (j + 1) = true := by kernel_rfl) (hS : S w := by assumption) : wpAnyH P md ops Q S (fuel + 1) (li.setIfInBounds j true) a w :=
  wpAnyH_take hi hs hf hr hQ (.inl ⟨hw, hy⟩) hS h
theorem ztu (i : Nat) (hi : ops[i]? = some o) (h : wpAnyH P md ops Q S fuel (li.setIfInBounds i true) (a.put o.dst undef) w)
    (hQ : ∀ c a w, Q (.panic c) (a.put o.dst undef) w → Q (.panic c) a w := by first | exact fun _ _ _ h => h | exact fun _ _ _ h => (by cases h.1))
    (hw : Region.wanted o (yielded ops a.tmps) = false := by rfl) (hs : Region.noSelect ops = true := by kernel_rfl) (hf : Region.free md ops li i = true := by kernel_rfl)
    (hr : (Region.ready md ops li).contains i = true := by kernel_rfl) (hS : S w := by assumption) : wpAnyH P md ops Q S (fuel + 1) li a w :=
  wpAnyH_take hi hs hf hr hQ (.inr ⟨hw, rfl⟩) hS h
theorem zr1 (i : Nat) (hi : ops[i]? = some o) (h : (∀ K' : Act → World → Prop, Shut (∀ a w, S w → (S w → wpAnyH P md ops Q S fuel (li.setIfInBounds i true) a w) → K' a w) → if Region.wanted o (yielded ops a.tmps) = true then Oper.wp P o a w K' Q else K' (a.put o.dst undef) w)) (hr : Region.ready md ops li = [i] := by kernel_rfl) : wpAnyH P md ops Q S (fuel + 1) li a w :=
  wpAnyH_ready hr (by simp) (AllReadyH.cons hi h AllReadyH.nil)
theorem zr2 {o2 : Oper} (i j : Nat) (hi : ops[i]? = some o) (hj : ops[j]? = some o2) (h : (∀ K' : Act → World → Prop, Shut (∀ a w, S w → (S w → wpAnyH P md ops Q S fuel (li.setIfInBounds i true) a w) → K' a w) → if Region.wanted o (yielded ops a.tmps) = true then Oper.wp P o a w K' Q else K' (a.put o.dst undef) w)) (h2 : (∀ K' : Act → World → Prop, Shut (∀ a w, S w → (S w → wpAnyH P md ops Q S fuel (li.setIfInBounds j true) a w) → K' a w) → if Region.wanted o2 (yielded ops a.tmps) = true then Oper.wp P o2 a w K' Q else K' (a.put o2.dst undef) w))
    (hr : Region.ready md ops li = [i, j] := by kernel_rfl) : wpAnyH P md ops Q S (fuel + 1) li a w :=
  wpAnyH_ready hr (by simp) (AllReadyH.cons hi h (AllReadyH.cons hj h2 AllReadyH.nil))
end
end
section
open Go.RowKit
theorem own_at {g o n c i : Nat} (h : (Value.slice (some ⟨g, o, none⟩) n c).ownBlock = some i) : g = i := Option.some.inj h
structure Frm (S : Nat → Prop) (w w' : World) : Prop where
  os : w'.os = w.os
  tape : w'.tape = w.tape
  output : w'.output = w.output
  size : w.heap.size ≤ w'.heap.size
  block : ∀ k, k < w.heap.size → ¬ S k → w'.heap[k]? = w.heap[k]?
namespace Frm
variable {S T : Nat → Prop} {a b c w w' : World}
theorem refl (S : Nat → Prop) (w : World) : Frm S w w := ⟨rfl, rfl, rfl, Nat.le_refl _, fun _ _ _ => rfl⟩
theorem trans' (h : Frm S a b) (k : Frm T b c) (hT : ∀ i, i < a.heap.size → T i → S i) : Frm S a c :=
  ⟨k.os.trans h.os, k.tape.trans h.tape, k.output.trans h.output, Nat.le_trans h.size k.size, fun i hi hn => (k.block i (Nat.lt_of_lt_of_le hi h.size) (fun t => hn (hT i hi t))).trans (h.block i hi hn)⟩
theorem trans (h : Frm S a b) (k : Frm S b c) : Frm S a c := h.trans' k (fun _ _ t => t)
theorem mono (h : Frm S a b) (hS : ∀ i, i < a.heap.size → S i → T i) : Frm T a b :=
  ⟨h.os, h.tape, h.output, h.size, fun i hi hn => h.block i hi (fun s => hn (hS i hi s))⟩
theorem drew (h : Frm S a w) : Frm S a w.drew := ⟨h.os, h.tape, h.output, h.size, h.block⟩
theorem drewN (h : Frm S a w) (n : Nat) : Frm S a (w.drewN n) := ⟨h.os, h.tape, h.output, h.size, h.block⟩
theorem alloc (h : Frm S a w) (o : Obj) : Frm S a (w.alloc o) :=
  h.trans ⟨rfl, rfl, rfl, by simp, fun k hk _ => Below.heap_alloc _ _ _ hk⟩
theorem setCell (h : Frm S a w) {p : Addr} (hp : p.block < a.heap.size → S p.block) (u : Value) : Frm S a (w.setCell p u) :=
  ⟨h.os, h.tape, h.output, by simpa [World.setCell] using h.size, fun k hk hn => (Below.heap_setCell _ _ _ _ (fun e => hn (by subst e; exact hp hk))).trans (h.block k hk hn)⟩
theorem grown {row : Option Nat} (h : Frm S a w) (hg : w.grownBy w' row) (hr : ∀ k, row = some k → k < a.heap.size → S k) : Frm S a w' :=
  ⟨hg.os.trans h.os, hg.tape.trans h.tape, hg.output.trans h.output, Nat.le_trans h.size hg.size, fun k hk hn => (hg.block k (Nat.lt_of_lt_of_le hk h.size) (fun e => hn (hr k e.symm hk))).trans (h.block k hk hn)⟩
theorem of_grown {row : Option Nat} (hg : w.grownBy w' row) : Frm (fun k => row = some k) w w' := ⟨hg.os, hg.tape, hg.output, hg.size, fun k hk hn => hg.block k hk (fun e => hn e.symm)⟩
theorem of_below {B : Nat} (h : Below B w w') : Frm (fun k => B ≤ k) w w' := ⟨h.os, h.tape, h.output, h.size, fun k _ hn => h.block k (by omega)⟩
theorem below {B : Nat} (h : Frm S w w') (hB : B ≤ w.heap.size) (hS : ∀ k, k < B → ¬ S k) : Below B w w' :=
  ⟨h.os, h.tape, h.output, h.size, fun k hk => h.block k (by omega) (hS k hk)⟩
theorem cell (h : Frm S w w') {p : Addr} (hp : p.block < w.heap.size) (hn : ¬ S p.block) : w'.cell? p = w.cell? p := World.cell?_of_block (w := w) (h.block p.block hp hn)
theorem frozen (h : Frm S w w') {p : Addr} (hp : p.block < w.heap.size) (hn : ¬ S p.block) : w'.frozen? p = w.frozen? p := World.frozen?_of_block (w := w) (h.block p.block hp hn)
end Frm
abbrev Fresh (w w' : World) : Prop := Frm (fun _ => False) w w'
theorem Fresh.frm {S : Nat → Prop} {w w' : World} (h : Fresh w w') : Frm S w w' := h.mono (fun _ _ f => f.elim)
theorem Fresh.below {w w' : World} (h : Fresh w w') : Below w.heap.size w w' := Frm.below h (Nat.le_refl _) (fun _ _ f => f)
def Rd (w : World) (B : Nat) (A : Option Addr) (xs : List Value) : Prop :=
  xs ≠ [] → ∃ b o, A = some ⟨b, o, none⟩ ∧ b < B ∧ ∀ j u, xs[j]? = some u → w.cell? ⟨b, o + j, none⟩ = some u
namespace Rd
variable {w w' : World} {B B' : Nat} {A : Option Addr} {xs : List Value}
theorem nil (w : World) (B : Nat) (A : Option Addr) : Rd w B A [] := fun h => absurd rfl h
theorem keep (h : Rd w B A xs) (hk : ∀ p : Addr, p.block < B → w'.cell? p = w.cell? p) : Rd w' B A xs := fun hx => by
  obtain ⟨b, o, rfl, hb, hc⟩ := h hx
  exact ⟨b, o, rfl, hb, fun j u hu => (hk _ hb).trans (hc j u hu)⟩
theorem more (h : Rd w B A xs) (hB : B ≤ B') : Rd w B' A xs := fun hx => by
  obtain ⟨b, o, e, hb, hc⟩ := h hx
  exact ⟨b, o, e, by omega, hc⟩
theorem below (h : Rd w B A xs) (hb : Below B w w') : Rd w' B A xs := h.keep fun _ hp => hb.cell hp
theorem drew (h : Rd w B A xs) : Rd w.drew B A xs := h
theorem drewN (h : Rd w B A xs) (k : Nat) : Rd (w.drewN k) B A xs := h
theorem frm {S : Nat → Prop} (h : Rd w B A xs) (hB : B ≤ w.heap.size) (hf : Frm S w w') (hn : ∀ p, A = some p → p.block < B → ¬ S p.block) : Rd w' B A xs := fun hx => by
  obtain ⟨b, o, e, hb, hc⟩ := h hx
  exact ⟨b, o, e, hb, fun j u hu => (hf.cell (p := ⟨b, o + j, none⟩) (Nat.lt_of_lt_of_le hb hB) (hn ⟨b, o, none⟩ e hb)).trans (hc j u hu)⟩
theorem fresh (h : Rd w B A xs) (hB : B ≤ w.heap.size) (hf : Fresh w w') : Rd w' B A xs := h.frm hB hf (fun _ _ _ f => f)
theorem alloc (h : Rd w B A xs) (hB : B ≤ w.heap.size) (o : Obj) : Rd (w.alloc o) B A xs := h.fresh hB ((Frm.refl _ _).alloc o)
theorem at_ {k : Nat} (h : Rd w B A xs) (hk : k < xs.length) : ∃ b o, A = some ⟨b, o, none⟩ ∧ b < B ∧ w.cell? ⟨b, o + k, none⟩ = some xs[k] := by
  obtain ⟨b, o, e, hb, hc⟩ := h (by intro e; rw [e] at hk; simp at hk)
  exact ⟨b, o, e, hb, hc k _ (List.getElem?_eq_getElem hk)⟩
theorem cells (h : Rd w B A xs) (a : Addr) (hA : A = some a) : ∀ j u, xs[j]? = some u → w.cell? (a.add j) = some u := fun j u hu => by
  obtain ⟨b, o, e, hb, hc⟩ := h (by rintro rfl; simp at hu)
  rw [hA] at e
  injection e with e
  subst e
  rw [Addr.add_lit]
  exact hc j u hu
theorem cut (h : Rd w B A xs) {k cap : Nat} (hc : xs.length ≤ cap) : Rd w B (if cap = k then A else A.map (·.add k)) (xs.drop k) := fun hx => by
  have hl : k < xs.length := by
    rcases Nat.lt_or_ge k xs.length with h | h
    · exact h
    · exact absurd (List.drop_eq_nil_of_le h) hx
  obtain ⟨b, o, rfl, hb, hcell⟩ := h (by rintro rfl; simp at hl)
  rw [if_neg (by omega)]
  refine ⟨b, o + k, by simp [Addr.add_lit], hb, fun j u hu => ?_⟩
  rw [Nat.add_assoc]
  exact hcell _ u (by rw [← hu, List.getElem?_drop])
theorem take (h : Rd w B A xs) (k : Nat) : Rd w B A (xs.take k) := fun hx => by
  obtain ⟨b, o, e, hb, hc⟩ := h (by rintro rfl; simp at hx)
  refine ⟨b, o, e, hb, fun j u hu => hc j u ?_⟩
  rw [List.getElem?_take] at hu
  split at hu
  · exact hu
  · cases hu
end Rd
def Blk (w : World) (g : Nat) (t : TypeId) (cs : Array Value) : Prop := w.heap[g]? = some (.cells cs t (0, 0))
namespace Blk
variable {w w' : World} {g : Nat} {t : TypeId} {cs : Array Value}
theorem lt (h : Blk w g t cs) : g < w.heap.size := by
  rcases Nat.lt_or_ge g w.heap.size with hlt | hge
  · exact hlt
  · unfold Blk at h; rw [Array.getElem?_eq_none hge] at h; cases h
theorem cell (h : Blk w g t cs) (i : Nat) : w.cell? ⟨g, i, none⟩ = cs[i]? := cell_of_row w g i cs t (0, 0) h
theorem frozen (h : Blk w g t cs) (i : Nat) : w.frozen? ⟨g, i, none⟩ = false := by
  unfold Blk at h
  simp [World.frozen?, h]
theorem new (w : World) (t : TypeId) (cs : Array Value) : Blk (w.alloc (.cells cs t)) w.heap.size t cs := heap_alloc_new w _
theorem frm {S : Nat → Prop} (h : Blk w g t cs) (hf : Frm S w w') (hn : ¬ S g) : Blk w' g t cs := (hf.block g h.lt hn).trans h
theorem set (h : Blk w g t cs) (i : Nat) (u : Value) : Blk (w.setCell ⟨g, i, none⟩ u) g t (cs.setIfInBounds i u) := by
  unfold Blk at h ⊢
  simp [World.setCell, Array.getElem?_modify, h]
theorem far (h : Blk w g t cs) {p : Addr} (hp : g ≠ p.block) (u : Value) : Blk (w.setCell p u) g t cs := (Below.heap_setCell w p u g hp).trans h
theorem alloc (h : Blk w g t cs) (o : Obj) : Blk (w.alloc o) g t cs := (Below.heap_alloc w o g h.lt).trans h
theorem apart {g' : Nat} {t' : TypeId} {cs' : Array Value} (h : Blk w g t cs) (h' : Blk w g' t' cs') (hne : t ≠ t') : g ≠ g' := by
  rintro rfl
  unfold Blk at h h'
  rw [h] at h'
  injection h' with h'
  injection h' with _ ht
  exact hne ht
end Blk
def Sl (w : World) (B : Nat) (e : TypeId) (size : Nat) (v : Value) (n : Nat) (xs : List Value) : Prop :=
  xs.length = n * size ∧
  ((v = .slice none 0 0 ∧ n = 0) ∨
   ∃ g o cap cur, v = .slice (some ⟨g, o, none⟩) n cap ∧ B ≤ g ∧ Blk w g e cur ∧ n ≤ cap ∧ cap ≤ maxLen ∧ o + cap * size ≤ cur.size ∧ ∀ j u, xs[j]? = some u → cur[o + j]? = some u)
namespace Sl
variable {w w' : World} {B B' : Nat} {e : TypeId} {size : Nat} {v : Value} {n : Nat} {xs : List Value}
theorem nil (w : World) (B : Nat) (e : TypeId) (size : Nat) : Sl w B e size (.slice none 0 0) 0 [] := ⟨by simp, .inl ⟨rfl, rfl⟩⟩
theorem of_row (h : w.ownsRow B e size v n xs) : Sl w B e size v n xs := by
  obtain ⟨h1, h2⟩ := h
  refine ⟨h1, ?_⟩
  rcases h2 with h2 | ⟨g, cap, cur, hv, hb, hh, hn, hm, hs, ht⟩
  · exact .inl h2
  · refine .inr ⟨g, 0, cap, cur, hv, hb, hh, hn, hm, by omega, fun j u hu => ?_⟩
    rw [← ht, List.getElem?_take] at hu
    split at hu
    · simpa using hu
    · cases hu
theorem less (h : Sl w B e size v n xs) (hB : B' ≤ B) : Sl w B' e size v n xs := by
  obtain ⟨h1, h2⟩ := h
  rcases h2 with h2 | ⟨g, o, cap, cur, hv, hb, hh, hr⟩
  · exact ⟨h1, .inl h2⟩
  · exact ⟨h1, .inr ⟨g, o, cap, cur, hv, by omega, hh, hr⟩⟩
theorem frm {S : Nat → Prop} (h : Sl w B e size v n xs) (hf : Frm S w w') (hn : ∀ k, v.ownBlock = some k → ¬ S k) : Sl w' B e size v n xs := by
  obtain ⟨h1, h2⟩ := h
  rcases h2 with h2 | ⟨g, o, cap, cur, hv, hb, hh, hr⟩
  · exact ⟨h1, .inl h2⟩
  · exact ⟨h1, .inr ⟨g, o, cap, cur, hv, hb, hh.frm hf (hn g (by rw [hv]; rfl)), hr⟩⟩
theorem fresh (h : Sl w B e size v n xs) (hf : Fresh w w') : Sl w' B e size v n xs := h.frm hf (fun _ _ f => f)
theorem drew (h : Sl w B e size v n xs) : Sl w.drew B e size v n xs := h
theorem drewN (h : Sl w B e size v n xs) (k : Nat) : Sl (w.drewN k) B e size v n xs := h
theorem alloc (h : Sl w B e size v n xs) (o : Obj) : Sl (w.alloc o) B e size v n xs := h.fresh ((Frm.refl _ _).alloc o)
theorem lt (h : Sl w B e size v n xs) : ∀ k, v.ownBlock = some k → B ≤ k ∧ k < w.heap.size := by
  intro k hk
  rcases h.2 with ⟨rfl, _⟩ | ⟨g, o, cap, cur, rfl, hb, hh, hr⟩
  · simp [Value.ownBlock] at hk
  · have : g = k := by simpa [Value.ownBlock] using hk
    subst this
    exact ⟨hb, hh.lt⟩
theorem apart {g : Nat} {t : TypeId} {cs : Array Value} (h : Sl w B e size v n xs) (hg : Blk w g t cs) (hne : e ≠ t) : v.ownBlock ≠ some g := by
  rcases h.2 with ⟨rfl, _⟩ | ⟨g', o, cap, cur, rfl, hb, hh, hr⟩
  · simp [Value.ownBlock]
  · intro he
    have : g' = g := by simpa [Value.ownBlock] using he
    exact hh.apart hg hne this
theorem shape (h : Sl w B e size v n xs) : ∃ A cap, v = .slice A n cap ∧ n ≤ cap ∧ cap ≤ maxLen ∧ (A = none → n = 0 ∧ cap = 0) := by
  rcases h.2 with ⟨rfl, rfl⟩ | ⟨g, o, cap, cur, rfl, hb, hh, hn, hm, hr⟩
  · exact ⟨none, 0, rfl, by omega, by simp [maxLen], fun _ => ⟨rfl, rfl⟩⟩
  · exact ⟨_, _, rfl, hn, hm, fun h => by cases h⟩
theorem rd {A : Option Addr} {m c : Nat} (h : Sl w B e size (.slice A m c) n xs) : Rd w w.heap.size A xs := fun hx => by
  rcases h.2 with ⟨hv, h0⟩ | ⟨g, o, cap, cur, hv, hb, hh, hn, hm, hs, hc⟩
  · subst h0
    exact absurd (List.eq_nil_of_length_eq_zero (by simpa using h.1)) hx
  · injection hv with hA _ _
    exact ⟨g, o, hA, hh.lt, fun j u hu => by rw [hh.cell]; exact hc j u hu⟩
theorem head (h : Sl w B e size v n xs) (hn : 0 < n) : ∃ g o cap, v = .slice (some ⟨g, o, none⟩) n cap ∧ B ≤ g ∧ g < w.heap.size ∧ n ≤ cap ∧ cap ≤ maxLen := by
  rcases h.2 with ⟨_, h0⟩ | ⟨g, o, cap, cur, hv, hb, hh, hn', hm, hs, hc⟩
  · omega
  · exact ⟨g, o, cap, hv, hb, hh.lt, hn', hm⟩
theorem store {g o m cap : Nat} (h : Sl w B e size (.slice (some ⟨g, o, none⟩) m cap) n xs) {j : Nat} (hj : j < xs.length) (u : Value) :
    Sl (w.setCell ⟨g, o + j, none⟩ u) B e size (.slice (some ⟨g, o, none⟩) m cap) n (xs.set j u) := by
  obtain ⟨h1, h2⟩ := h
  rcases h2 with ⟨hv, _⟩ | ⟨g', o', cap', cur, hv, hb, hh, hn, hm, hs, hc⟩
  · cases hv
  · injection hv with hA hm' hcap
    injection hA with hA
    injection hA with hg ho
    subst hg ho hm' hcap
    refine ⟨by rw [List.length_set]; exact h1, .inr ⟨g, o, cap, _, rfl, hb, hh.set _ u, hn, hm, by simpa using hs, fun i x hx => ?_⟩⟩
    rw [List.getElem?_set] at hx
    by_cases hij : j = i
    · subst hij
      rw [if_pos rfl] at hx
      have hlt : o + j < cur.size := by
        have := Nat.mul_le_mul_right size hn
        omega
      rw [if_pos (by omega)] at hx
      injection hx with hx
      subst hx
      simp [hlt]
    · rw [if_neg hij] at hx
      rw [Array.getElem?_setIfInBounds, if_neg (by omega)]
      exact hc i x hx
theorem cell {g o m cap : Nat} (h : Sl w B e size (.slice (some ⟨g, o, none⟩) m cap) n xs) {j : Nat} (hj : j < xs.length) : w.cell? ⟨g, o + j, none⟩ = some xs[j] := by
  obtain ⟨b, o', hA, _, hc⟩ := h.rd.at_ hj
  injection hA with hA
  injection hA with hb ho
  subst hb ho
  exact hc
theorem frozen {g o m cap : Nat} (h : Sl w B e size (.slice (some ⟨g, o, none⟩) m cap) n xs) (j : Nat) : w.frozen? ⟨g, j, none⟩ = false := by
  rcases h.2 with ⟨hv, _⟩ | ⟨g', o', cap', cur, hv, hb, hh, hr⟩
  · cases hv
  · injection hv with hA _ _
    injection hA with hA
    injection hA with hg _
    subst hg
    exact hh.frozen j
theorem cut3 {g o m cap k l c : Nat} (h : Sl w B e 1 (.slice (some ⟨g, o, none⟩) m cap) n xs) (hk : k ≤ l) (hl : l ≤ n) (hlc : l ≤ c) (hc : c ≤ cap) :
    Sl w B e 1 (.slice (some ⟨g, o + k, none⟩) (l - k) (c - k)) (l - k) ((xs.take l).drop k) := by
  obtain ⟨h1, h2⟩ := h
  rcases h2 with ⟨hv, _⟩ | ⟨g', o', cap', cur, hv, hb, hh, hn, hm, hs, hcell⟩
  · cases hv
  · injection hv with hA hm' hcap
    injection hA with hA
    injection hA with hg ho
    subst hg ho hm' hcap
    refine ⟨by simp at h1 ⊢; omega, .inr ⟨g, o + k, c - k, cur, rfl, hb, hh, by omega, by omega, by omega, fun j u hu => ?_⟩⟩
    rw [List.getElem?_drop, List.getElem?_take] at hu
    split at hu
    · rw [Nat.add_assoc]; exact hcell _ u hu
    · cases hu
theorem cut0 {g o m cap k : Nat} (h : Sl w B e 1 (.slice (some ⟨g, o, none⟩) m cap) n xs) (hk : k ≤ n) (c : Nat) (hc : k ≤ c) (hcc : c ≤ cap) :
    Sl w B e 1 (.slice (some ⟨g, o, none⟩) k c) k (xs.take k) := by
  have := h.cut3 (k := 0) (l := k) (c := c) (Nat.zero_le _) hk hc hcc
  simpa using this
end Sl
theorem blk_setCells {e : TypeId} (g : Nat) : ∀ (vs : List Value) (o : Nat) (w : World) (cur : Array Value), Blk w g e cur → o + vs.length ≤ cur.size →
    ∃ cur', Blk (w.setCells g o vs) g e cur' ∧ cur'.size = cur.size ∧ (∀ j, j < o ∨ o + vs.length ≤ j → cur'[j]? = cur[j]?) ∧ ∀ j u, vs[j]? = some u → cur'[o + j]? = some u
  | [], _, w, cur, h, _ => ⟨cur, h, rfl, fun _ _ => rfl, fun j u hu => by simp at hu⟩
  | v :: r, o, w, cur, h, hl => by
    simp only [List.length_cons] at hl
    obtain ⟨cur', h1, h2, h3, h4⟩ := blk_setCells g r (o + 1) _ _ (h.set o v) (by simp; omega)
    refine ⟨cur', h1, by rw [h2]; simp, fun j hj => ?_, fun j u hu => ?_⟩
    · simp only [List.length_cons] at hj
      rw [h3 j (by omega), Array.getElem?_setIfInBounds, if_neg (by omega)]
    · match j, hu with
      | 0, hu =>
        have : v = u := by simpa using hu
        subst this
        rw [h3 (o + 0) (by omega)]
        simp [show o < cur.size by omega]
      | j + 1, hu =>
        have := h4 j u (by simpa using hu)
        rw [show o + (j + 1) = o + 1 + j by omega]
        exact this
theorem blk_setAll {w : World} {g : Nat} {e : TypeId} {cur : Array Value} (h : Blk w g e cur) {vs : List Value} (hl : vs.length = cur.size) : Blk (w.setCells g 0 vs) g e vs.toArray := by
  obtain ⟨cur', h1, h2, _, h4⟩ := blk_setCells g vs 0 w cur h (by omega)
  have : cur' = vs.toArray := by
    apply Array.ext_getElem?
    intro i
    rcases Nat.lt_or_ge i vs.length with hi | hi
    · have := h4 i vs[i] (List.getElem?_eq_getElem hi)
      rw [Nat.zero_add] at this
      rw [this]
      simp [hi]
    · rw [Array.getElem?_eq_none (by omega), Array.getElem?_eq_none (by simpa using hi)]
  rwa [this] at h1
theorem frm_setCells (g : Nat) : ∀ (vs : List Value) (o : Nat) (w : World), Frm (fun k => g = k) w (w.setCells g o vs)
  | [], _, w => Frm.refl _ w
  | v :: r, o, w => ((Frm.refl _ w).setCell (p := ⟨g, o, none⟩) (fun _ => rfl) v).trans ((frm_setCells g r (o + 1) _).mono (fun _ _ h => h))
section
variable {P : Program} (w : World)
theorem run_append_sl (B : Nat) (t ty e : TypeId) (i : TypeInfo) (z : Value) (size bytes : Nat) (ht : P.underlying t = some (.slice e)) (hi : P.info? e = some i) (hz : i.zero = some z)
    (hsize : i.size = size) (hby : i.bytes = bytes) (hzs : z.cells.size = size) (hsz : 0 < size)
    (v : Value) (n : Nat) (xs : List Value) (hown : Sl w B e size v n xs)
    (B' : Nat) (A : Option Addr) (m c : Nat) (news : List Value) (hl : news.length = m * size) (hr : Rd w B' A news) (h1 : ∀ u ∈ news, u.oneCell' = true)
    (h63 : n + m ≤ maxLen) (hbytes : (n + m) * bytes ≤ 140737488355328) (hB : B ≤ w.heap.size) :
    ∃ v' w', (Builtin.append_ #[t, t] ty #[v, .slice A m c]).run P w = .ok v' w' ∧ Sl w' B e size v' (n + m) (xs ++ news) ∧ Frm (fun k => v.ownBlock = some k) w w' ∧ (v'.ownBlock = v.ownBlock ∨ v'.ownBlock = some w.heap.size) := by
  -- nothing is appended
  by_cases hm0 : m = 0
  · subst hm0
    have hnil : news = [] := List.eq_nil_of_length_eq_zero (by simpa using hl)
    subst hnil
    refine ⟨v, w, ?_, by simpa using hown, Frm.refl _ _, .inl rfl⟩
    obtain ⟨A', cap, rfl, hnc, _, hno⟩ := hown.shape
    rcases A with _ | a <;> rcases A' with _ | a'
    · obtain ⟨rfl, rfl⟩ := hno rfl
      simp [Builtin.append_, run_underlying ht, sizeOf, typeInfo, hi, Builtin.lenOf, Builtin.firstCells]
    · simp [Builtin.append_, run_underlying ht, sizeOf, typeInfo, hi, Builtin.lenOf, Builtin.firstCells, hnc, storeCells]
    · obtain ⟨rfl, rfl⟩ := hno rfl
      have hf := run_firstCells_some (P := P) w i.size 0 a 0 c [] (by simp) (by simp)
      simp [Builtin.append_, run_underlying ht, sizeOf, typeInfo, hi, Builtin.lenOf, hf]
    · have hf := run_firstCells_some (P := P) w i.size 0 a 0 c [] (by simp) (by simp)
      simp [Builtin.append_, run_underlying ht, sizeOf, typeInfo, hi, Builtin.lenOf, hf, hnc, storeCells]
  · -- something is
    have hne : news ≠ [] := by
      rintro rfl
      have h0 : 0 < m * size := Nat.mul_pos (by omega) hsz
      simp only [List.length_nil] at hl
      omega
    obtain ⟨b, o', hA, hb, hcell⟩ := hr hne
    subst hA
    have hcells : ∀ j u, news[j]? = some u → w.cell? ((⟨b, o', none⟩ : Addr).add j) = some u := fun j u hu => by rw [Addr.add_lit]; exact hcell j u hu
    rcases hown.2 with ⟨rfl, rfl⟩ | ⟨g, o, cap, cur, rfl, hBg, hblk, hn, hm, hs, hc⟩
    · have hxs : xs = [] := List.eq_nil_of_length_eq_zero (by simpa using hown.1)
      subst hxs
      obtain ⟨v', w', hrun, h2, h3, _⟩ := run_append_own (P := P) w w.heap.size t ty e i z size bytes ht hi hz hsize hby hzs hsz (.slice none 0 0) 0 [] (World.ownsRow_nil w _ e size) ⟨b, o', none⟩ m c news hl hcells h1 h63 hbytes (Nat.le_refl _)
      have hs' := Sl.of_row h2
      refine ⟨v', w', hrun, hs'.less hB, Frm.of_grown h3, .inr ?_⟩
      obtain ⟨v2, w2, hrun2, h22, _, _, h25⟩ := run_append_own_at (P := P) w w.heap.size t ty e i z size bytes ht hi hz hsize hby hzs hsz (.slice none 0 0) 0 [] (World.ownsRow_nil w _ e size) ⟨b, o', none⟩ m c news hl hcells h1 h63 hbytes (Nat.le_refl _)
      rw [hrun] at hrun2
      injection hrun2 with e1 e2
      subst e1 e2
      rcases h25 with h | h
      · rcases hs'.2 with ⟨rfl, h0⟩ | ⟨g, o, cap, cur, rfl, _⟩
        · omega
        · simp [Value.ownBlock] at h
      · exact h
    · by_cases hroom : n + m ≤ cap
      · subst hsize
        have hfit : o + n * i.size + news.length ≤ cur.size := by
          have : (n + m) * i.size ≤ cap * i.size := Nat.mul_le_mul_right _ hroom
          rw [Nat.add_mul] at this
          omega
        have hrun := run_append_room_cells (P := P) w t ty e i ht hi g o n cap ⟨b, o', none⟩ m c news hl hcells h1 hroom
          (fun j hj => by rw [hblk.cell]; simp; omega) (fun j _ => hblk.frozen _)
        obtain ⟨cur', k1, k2, k3, k4⟩ := blk_setCells g news (o + n * i.size) w cur hblk hfit
        refine ⟨_, _, hrun, ⟨by rw [List.length_append, hown.1, hl, Nat.add_mul], .inr ⟨g, o, cap, cur', rfl, hBg, k1, hroom, hm, by omega, fun j u hu => ?_⟩⟩, (frm_setCells g news _ w).mono (fun k _ h => by simp [Value.ownBlock, h]), .inl rfl⟩
        rw [List.getElem?_append] at hu
        split at hu
        · rename_i hj
          rw [k3 _ (.inl (by have := hown.1; omega))]
          exact hc j u hu
        · rename_i hj
          have hj' := hown.1
          have := k4 (j - n * i.size) u (by rw [← hu]; congr 1; omega)
          rw [← this]
          congr 1
          omega
      · obtain ⟨v', w', hrun, r1, r2⟩ := run_append_arg_grows (P := P) w t ty e i z size bytes ht hi hz hsize hby hzs hsz ⟨g, o, none⟩ n cap xs hown.1 (fun j u hu => by rw [Addr.add_lit, hblk.cell]; exact hc j u hu) ⟨b, o', none⟩ m c news hl hcells (by omega) h63 hbytes
        refine ⟨v', w', hrun, (Sl.of_row r1).less hB, (Frm.of_grown r2).mono (fun _ _ h => by cases h), .inr ?_⟩
        have hr2 := run_append_grow (P := P) w t ty e i z ht hi hz ⟨g, o, none⟩ n cap xs (by rw [hsize]; exact hown.1) (fun j u hu => by rw [Addr.add_lit, hblk.cell]; exact hc j u hu) ⟨b, o', none⟩ m c news (by rw [hsize]; exact hl) hcells (by omega) (by simp only [maxLen] at h63; omega) (by rw [hby]; exact growslice_fits (by omega) hbytes)
        rw [hrun] at hr2
        injection hr2 with e1 e2
        subst e1
        rfl
theorem wpList_append_sl {ops : Array Oper} {rest : List Oper} {o : Oper} {a : Act} {Q : Exit → Act → World → Prop} (hgd : o.guard = none) (s x : Operand) (t : TypeId)
    (ho : o.op = .call { callee := .builtin .append, args := #[s, x], argTypes := #[t, t] })
    (B : Nat) (e : TypeId) (i : TypeInfo) (z : Value) (size bytes : Nat) (ht : P.underlying t = some (.slice e)) (hi : P.info? e = some i) (hz : i.zero = some z)
    (hsize : i.size = size) (hby : i.bytes = bytes) (hzs : z.cells.size = size) (hsz : 0 < size)
    (v : Value) (n : Nat) (xs : List Value) (hs : a.eval s = v) (hown : Sl w B e size v n xs)
    (B' : Nat) (A : Option Addr) (m c : Nat) (news : List Value) (hx : a.eval x = .slice A m c) (hl : news.length = m * size) (hr : Rd w B' A news) (h1 : ∀ u ∈ news, u.oneCell' = true)
    (h63 : n + m ≤ maxLen) (hbytes : (n + m) * bytes ≤ 140737488355328) (hB : B ≤ w.heap.size)
    (h : ∀ v' w', Sl w' B e size v' (n + m) (xs ++ news) → Frm (fun k => v.ownBlock = some k) w w' → (v'.ownBlock = v.ownBlock ∨ v'.ownBlock = some w.heap.size) → wpList P ops Q rest (a.put o.dst v') w') : wpList P ops Q (o :: rest) a w := by
  refine wpList_plain hgd fun K hK => ?_
  obtain ⟨v', w', hrun, h2, h3, h4⟩ := run_append_sl (P := P) w B t o.type e i z size bytes ht hi hz hsize hby hzs hsz v n xs hown B' A m c news hl hr h1 h63 hbytes hB
  unfold Oper.wp execOp
  simp only [ho, resolve, invoke, builtin, Sem.run_bind, Sem.run_pure, Result.andThen_ok, List.map_toArray, List.map_cons, List.map_nil, hs, hx, hrun]
  exact hK _ _ (h v' w' h2 h3 h4)
end
theorem rd_one (w : World) (x : Value) (t : TypeId) : Rd (w.alloc (.cells #[x] t)) (w.heap.size + 1) (some ⟨w.heap.size, 0, none⟩) [x] := fun _ =>
  ⟨w.heap.size, 0, rfl, by omega, fun j u hu => by
    have := cell_one_new w x t j u hu
    rwa [Addr.add_lit] at this⟩
theorem rd_new (w : World) (xs : List Value) (t : TypeId) : Rd (w.alloc (.cells xs.toArray t)) (w.heap.size + 1) (some ⟨w.heap.size, 0, none⟩) xs := fun _ =>
  ⟨w.heap.size, 0, rfl, by omega, fun j u hu => by
    rw [(Blk.new w t xs.toArray).cell]
    simpa using hu⟩
theorem sl_new (w : World) (B : Nat) (xs : List Value) (t : TypeId) (hB : B ≤ w.heap.size) (hm : xs.length ≤ maxLen) : Sl (w.alloc (.cells xs.toArray t)) B t 1 (.slice (some ⟨w.heap.size, 0, none⟩) xs.length xs.length) xs.length xs :=
  ⟨by simp, .inr ⟨w.heap.size, 0, xs.length, xs.toArray, rfl, hB, Blk.new w t _, Nat.le_refl _, hm, by simp, fun j u hu => by simpa using hu⟩⟩
end
section
open Go.RowKit Go.ChangeShapes Go.WideShapes
structure IsInts (k : IntKind) (W : World) (A : Option Addr) (cap : Nat) (zs : List Int) : Prop where
  le : zs.length ≤ cap
  most : cap ≤ maxLen
  none_ : A = none → cap = 0
  rd : Rd W W.heap.size A (zs.map (Value.int k))
  wf : ∀ n ∈ zs, (Lit.int k n).wf = true
def bv (b : UInt8) : Value := .int .u8 (b.toNat : Int)
theorem bv_one (l : List UInt8) : ∀ u ∈ l.map bv, u.oneCell' = true := by
  intro u hu
  obtain ⟨_, _, rfl⟩ := List.mem_map.1 hu
  rfl
structure IsBytes (W : World) (A : Option Addr) (cap : Nat) (bs : List UInt8) : Prop where
  le : bs.length ≤ cap
  most : cap ≤ maxLen
  none_ : A = none → cap = 0
  rd : Rd W W.heap.size A (bs.map bv)
theorem bytes_of_ints : ∀ (zs : List Int), (∀ n ∈ zs, (Lit.int .u8 n).wf = true) → ∃ bs : List UInt8, zs = bs.map (fun b => (b.toNat : Int))
  | [], _ => ⟨[], rfl⟩
  | z :: r, h => by
    obtain ⟨bs, hb⟩ := bytes_of_ints r (fun n hn => h n (by simp [hn]))
    have hz := h z (by simp)
    have : 0 ≤ z ∧ z ≤ 255 := by simpa [Lit.wf, IntKind.min, IntKind.max, IntKind.signed, IntKind.bits] using hz
    refine ⟨UInt8.ofNat z.toNat :: bs, ?_⟩
    rw [hb]
    have e : (UInt8.ofNat z.toNat).toNat = z.toNat := by rw [UInt8.toNat_ofNat']; omega
    simp only [List.map_cons, e]
    congr 1
    omega
theorem IsInts.bytes {W : World} {A : Option Addr} {cap : Nat} {zs : List Int} (h : IsInts .u8 W A cap zs) : ∃ bs : List UInt8, zs.length = bs.length ∧ IsBytes W A cap bs := by
  obtain ⟨bs, rfl⟩ := bytes_of_ints zs h.wf
  refine ⟨bs, by simp, ⟨by simpa using h.le, h.most, h.none_, ?_⟩⟩
  have e : bs.map bv = (bs.map (fun b => (b.toNat : Int))).map (Value.int .u8) := by simp [bv, Function.comp_def]
  rw [e]
  exact h.rd
section
variable {H : Type} {enc : TypeId × Value → H} {P : Program} {W : World} {base : Nat} {t e : TypeId} {k : IntKind} {v : Value} {d : DataW H} {p : List MemPlace}
end
end
end Go.Proofs.YtbeaoddjomdlcaaGreatDoor

/- Proved here, for the statement ClientOnceSaid: laws that its walk leans on. It holds with no condition. (Put together and shortened by a program out of many texts: Tk, Mem, Open, FieldMath, Shelf, NumP, TextP, Reads, Cl1.) -/
import Derived.Deep.RegionHeld3
import Derived.Lib.Hide
import Derived.Maps.AppendAt
import Derived.Shelf.Strconv.Itoa0
import Derived.Shelf.Slices.Clone
import Derived.Shelf.SlicesE.Clone
import Derived.Test.YtnmokpbomeamfaaGreatRows
import Derived.Handy
import Derived.WalkLawsBesides
import Derived.Lib.SmallJoins
set_option linter.unusedVariables false
set_option maxRecDepth 100000
set_option maxHeartbeats 64000000
namespace Go.Proofs.YtnmokpbomeamfaaGreat
section
theorem zT {α : Type} (l : List α) (i : Nat) (a : α) : (l.toArray).setIfInBounds i a = (l.set i a).toArray := List.setIfInBounds_toArray ..
theorem zZ {α : Type} (a : α) (l : List α) (b : α) : (a :: l).set 0 b = b :: l := rfl
theorem zS {α : Type} (a : α) (l : List α) (n : Nat) (b : α) : (a :: l).set (n + 1) b = a :: l.set n b := rfl
theorem zo {l : List Oper} {i : Nat} {o : Oper} (h : l[i]? = some o) : (List.toArray l)[i]? = some o := by simpa using h
theorem zh {p : Prop} (h : p) : Go.RowKit.Hid p := h
section
variable {P : Program} {ops : Array Oper} {Q : Exit → Act → World → Prop} {md : Region.Mode} {S : World → Prop} {o : Oper} {v : Value} {fuel : Nat} {li : Array Bool} {a : Act} {w : World} {j : Nat}
theorem zt (i : Nat) (hi : ops[i]? = some o) (h : wpAnyH P md ops Q S fuel (li.setIfInBounds i true) (a.put o.dst v) w)
 (hy : ∀ w, S w → (execOp a.eval o).run P w = .ok (.value v) w := by intro w hSw; (try dsimp only at hSw); go_simp; try with_reducible rfl)
 (hQ : ∀ c a w, Q (.panic c) (a.put o.dst v) w → Q (.panic c) a w := by first | exact fun _ _ _ h => h | exact fun _ _ _ h => (by cases h.1))
 (hw : Region.wanted o (yielded ops a.tmps) = true := by rfl) (hs : Region.noSelect ops = true := by kernel_rfl) (hf : Region.free md ops li i = true := by kernel_rfl)
 (hr : (Region.ready md ops li).contains i = true := by kernel_rfl) (hS : S w := by assumption) : wpAnyH P md ops Q S (fuel + 1) li a w :=
 wpAnyH_take hi hs hf hr hQ (.inl ⟨hw, hy⟩) hS h
theorem ztz (hi : ops[0]? = some o) (h : wpAnyH P md ops Q S fuel ((Array.replicate ops.size false).setIfInBounds 0 true) (a.put o.dst v) w)
 (hy : ∀ w, S w → (execOp a.eval o).run P w = .ok (.value v) w := by intro w hSw; (try dsimp only at hSw); go_simp; try with_reducible rfl)
 (hQ : ∀ c a w, Q (.panic c) (a.put o.dst v) w → Q (.panic c) a w := by first | exact fun _ _ _ h => h | exact fun _ _ _ h => (by cases h.1))
 (hw : Region.wanted o (yielded ops a.tmps) = true := by rfl) (hs : Region.noSelect ops = true := by kernel_rfl) (hf : Region.free md ops (Array.replicate ops.size false) 0 = true := by kernel_rfl)
 (hr : (Region.ready md ops (Array.replicate ops.size false)).contains 0 = true := by kernel_rfl) (hS : S w := by assumption) : wpAnyH P md ops Q S (fuel + 1) (Array.replicate ops.size false) a w :=
 wpAnyH_take hi hs hf hr hQ (.inl ⟨hw, hy⟩) hS h
theorem ztn (hi : ops[j + 1]? = some o) (h : wpAnyH P md ops Q S fuel ((li.setIfInBounds j true).setIfInBounds (j + 1) true) (a.put o.dst v) w)
 (hy : ∀ w, S w → (execOp a.eval o).run P w = .ok (.value v) w := by intro w hSw; (try dsimp only at hSw); go_simp; try with_reducible rfl)
 (hQ : ∀ c a w, Q (.panic c) (a.put o.dst v) w → Q (.panic c) a w := by first | exact fun _ _ _ h => h | exact fun _ _ _ h => (by cases h.1))
 (hw : Region.wanted o (yielded ops a.tmps) = true := by rfl) (hs : Region.noSelect ops = true := by kernel_rfl) (hf : Region.free md ops (li.setIfInBounds j true) (j + 1) = true := by kernel_rfl)
 (hr : (Region.ready md ops (li.setIfInBounds j true)).contains (j + 1) = true := by kernel_rfl) (hS : S w := by assumption) : wpAnyH P md ops Q S (fuel + 1) (li.setIfInBounds j true) a w :=
 wpAnyH_take hi hs hf hr hQ (.inl ⟨hw, hy⟩) hS h
theorem ztu (i : Nat) (hi : ops[i]? = some o) (h : wpAnyH P md ops Q S fuel (li.setIfInBounds i true) (a.put o.dst undef) w)
 (hQ : ∀ c a w, Q (.panic c) (a.put o.dst undef) w → Q (.panic c) a w := by first | exact fun _ _ _ h => h | exact fun _ _ _ h => (by cases h.1))
 (hw : Region.wanted o (yielded ops a.tmps) = false := by rfl) (hs : Region.noSelect ops = true := by kernel_rfl) (hf : Region.free md ops li i = true := by kernel_rfl)
 (hr : (Region.ready md ops li).contains i = true := by kernel_rfl) (hS : S w := by assumption) : wpAnyH P md ops Q S (fuel + 1) li a w :=
 wpAnyH_take hi hs hf hr hQ (.inr ⟨hw, rfl⟩) hS h
theorem zr1 (i : Nat) (hi : ops[i]? = some o) (h : (∀ K' : Act → World → Prop, Shut (∀ a w, S w → (S w → wpAnyH P md ops Q S fuel (li.setIfInBounds i true) a w) → K' a w) → if Region.wanted o (yielded ops a.tmps) = true then Oper.wp P o a w K' Q else K' (a.put o.dst undef) w)) (hr : Region.ready md ops li = [i] := by kernel_rfl) : wpAnyH P md ops Q S (fuel + 1) li a w :=
 wpAnyH_ready hr (by simp) (AllReadyH.cons hi h AllReadyH.nil)
theorem zr2 {o2 : Oper} (i j : Nat) (hi : ops[i]? = some o) (hj : ops[j]? = some o2) (h : (∀ K' : Act → World → Prop, Shut (∀ a w, S w → (S w → wpAnyH P md ops Q S fuel (li.setIfInBounds i true) a w) → K' a w) → if Region.wanted o (yielded ops a.tmps) = true then Oper.wp P o a w K' Q else K' (a.put o.dst undef) w)) (h2 : (∀ K' : Act → World → Prop, Shut (∀ a w, S w → (S w → wpAnyH P md ops Q S fuel (li.setIfInBounds j true) a w) → K' a w) → if Region.wanted o2 (yielded ops a.tmps) = true then Oper.wp P o2 a w K' Q else K' (a.put o2.dst undef) w))
 (hr : Region.ready md ops li = [i, j] := by kernel_rfl) : wpAnyH P md ops Q S (fuel + 1) li a w :=
 wpAnyH_ready hr (by simp) (AllReadyH.cons hi h (AllReadyH.cons hj h2 AllReadyH.nil))
end
theorem zb : ∀ {p : Prop} [inst : Decidable p], ¬p → decide p = false := @decide_eq_false
theorem zc : ∀ {p : Prop} [inst : Decidable p], p → decide p = true := @decide_eq_true
abbrev zd := @wpList_store_mid
theorem ze.{u_1} : ∀ {α : Type u_1} {l : List α} {n : Nat} (h : n < List.length l), l[n] ∈ l := @List.getElem_mem
theorem zf : ∀ (n : Nat), n ≤ n := @Nat.le_refl
theorem zg.{u} : ∀ {α : Type u} {xs bs : List α}, List.length (xs ++ bs) = List.length xs + List.length bs := @List.length_append
abbrev zi := @bodyPost_ret
abbrev zj := @wp_region_held_drew
theorem zk.{u} : ∀ {c : Prop} {h : Decidable c}, ¬c → ∀ {α : Sort u} {t e : α}, (if c then t else e) = e := @if_neg
theorem zl.{u} : ∀ {c : Prop} {h : Decidable c}, c → ∀ {α : Sort u} {t e : α}, (if c then t else e) = t := @if_pos
theorem zm : ∀ (n : Int), -9223372036854775808 ≤ n ∧ n ≤ 9223372036854775807 → IntKind.wrap IntKind.i64 n = n := @IntWalk.i64_in
theorem zn.{u_1, u_2} : ∀ {α : Type u_1} {β : Type u_2} {f : α → β} {l1 l2 : List α}, List.map f (l1 ++ l2) = List.map f l1 ++ List.map f l2 := @List.map_append
theorem zp : ∀ {n m k : Nat}, n ≤ m → m ≤ k → n ≤ k := @Nat.le_trans
theorem zq.{u, v} : ∀ {α : Type u} {β : Type v} {x : α} {xs : List α} {f : α → List β}, List.flatMap f (x :: xs) = f x ++ List.flatMap f xs := @List.flatMap_cons
theorem zu.{u_1} : ∀ {α : Type u_1} {i : Nat} {l : List α} (h : i < List.length l), List.take (i + 1) l = List.take i l ++ [l[i]] := @List.take_succ_eq_append_getElem
theorem zw.{u_1} : ∀ {α : Type u_1} {i : Nat} {l : List α}, List.length (List.take i l) = min i (List.length l) := @List.length_take
theorem zx : ∀ (n : Nat), Int.toNat ↑n = n := @Int.toNat_natCast
theorem zy.{u_1} : ∀ {α : Type u_1} {a : α} {s t : List α}, a ∈ s ++ t ↔ a ∈ s ∨ a ∈ t := @List.mem_append
theorem zz.{u} : ∀ {α : Type u} {xs : List α} {i : Nat} {a : α}, List.length (List.set xs i a) = List.length xs := @List.length_set
theorem zA : ∀ {a : Int}, 0 ≤ a → ∃ (n : Nat), a = ↑n := @Int.eq_ofNat_of_zero_le
theorem zB.{u_1, u_2} : ∀ {α : Type u_1} {β : Type u_2} {xs : List α} (f : α → β), List.length (List.map f xs) = List.length xs := @List.length_map
theorem zC.{u_1} : ∀ {α : Type u_1} [inst : BEq α] [LawfulBEq α] {a b : α}, (a == b) = false ↔ a ≠ b := @beq_eq_false_iff_ne
theorem zD.{u_1} : ∀ {α : Type u_1} {i : Nat} {l : List α}, List.length l ≤ i → List.take i l = l := @List.take_of_length_le
theorem zE.{u} : ∀ {α : Type u} {val val_1 : α}, some val = some val_1 → val = val_1 := @Option.some.inj
theorem zF : ∀ (n : Nat), 0 ≤ n := @Nat.zero_le
theorem zG.{u} : ∀ {α : Type u} {a : α} {xs : List α}, List.length (a :: xs) = List.length xs + 1 := @List.length_cons
theorem zH.{u_1} : ∀ {α : Type u_1} {l : List α} {i : Nat} (h : i < List.length l), l[i]? = some l[i] := @List.getElem?_eq_getElem
theorem zI : ∀ (b : Bool), b = true ∨ b = false := @Bool.eq_false_or_eq_true
theorem zJ : ∀ (w : World) (o : Obj), Array.size (World.heap (World.alloc w o)) = Array.size (World.heap w) + 1 := @World.size_alloc
theorem zK.{u_1} : ∀ {α : Type u_1} {i : Nat} {l : List α} (h : i < List.length l), List.drop i l = l[i] :: List.drop (i + 1) l := @List.drop_eq_getElem_cons
theorem zL : ∀ (n m : Nat), n < m ∨ n ≥ m := @Nat.lt_or_ge
abbrev zM := @wpList_load_mid
theorem zN.{u_1} : ∀ {α : Type u_1} {i : Nat} {l : List α}, List.length (List.drop i l) = List.length l - i := @List.length_drop
theorem zO.{u_1} : ∀ {α : Type u_1} {a b : α}, a ∈ [b] ↔ a = b := @List.mem_singleton
theorem zP.{u_1} : ∀ {α : Type u_1} {l : List α} {i : Nat} {a : α} (h : i < List.length (List.set l i a)), (List.set l i a)[i] = a := @List.getElem_set_self
theorem zQ.{u_1, u_2} : ∀ {α : Type u_1} {β : Type u_2} {b : β} {f : α → β} {l : List α}, b ∈ List.map f l ↔ ∃ (a : α), a ∈ l ∧ f a = b := @List.mem_map
theorem zR : ∀ {n m : Nat}, Nat.succ n < m → n < m := @Nat.lt_of_succ_lt
theorem zU.{u_1} : ∀ {α : Type u_1} {b : α} {l : List α} {a : α}, a ∈ b :: l ↔ a = b ∨ a ∈ l := @List.mem_cons
theorem zV.{u, v} : ∀ {α : Type u} {β : Type v} {xs ys : List α} {f : α → List β}, List.flatMap f (xs ++ ys) = List.flatMap f xs ++ List.flatMap f ys := @List.flatMap_append
theorem zW.{u, v} : ∀ {α : Type u} {β : Type v} {f : α → β} {a : α} {l : List α}, List.map f (a :: l) = f a :: List.map f l := @List.map_cons
theorem zX.{u} : ∀ {α : Type u}, List.length ([] : List α) = 0 := @List.length_nil
theorem zY : ∀ {p : Prop} [inst : Decidable p], decide p = true → p := @of_decide_eq_true
theorem jA : ∀ {n m : Nat}, n < m → n ≤ m := @Nat.le_of_lt
theorem jB : ∀ {a b : Int}, 0 ≤ a → Int.tmod a b = a % b := @Int.tmod_eq_emod_of_nonneg
end
section
open Go.RowKit
theorem own_at {g o n c i : Nat} (h : (Value.slice (some ⟨g, o, none⟩) n c).ownBlock = some i) : g = i := zE h
structure Frm (S : Nat → Prop) (w w' : World) : Prop where
 os : w'.os = w.os
 tape : w'.tape = w.tape
 output : w'.output = w.output
 size : w.heap.size ≤ w'.heap.size
 block : ∀ k, k < w.heap.size → ¬ S k → w'.heap[k]? = w.heap[k]?
namespace Frm
variable {S T : Nat → Prop} {a b c w w' : World}
theorem refl (S : Nat → Prop) (w : World) : Frm S w w := ⟨rfl, rfl, rfl, zf _, fun _ _ _ => rfl⟩
theorem trans' (h : Frm S a b) (k : Frm T b c) (hT : ∀ i, i < a.heap.size → T i → S i) : Frm S a c :=
 ⟨k.os.trans h.os, k.tape.trans h.tape, k.output.trans h.output, zp h.size k.size, fun i hi hn => (k.block i (Nat.lt_of_lt_of_le hi h.size) (fun t => hn (hT i hi t))).trans (h.block i hi hn)⟩
theorem trans (h : Frm S a b) (k : Frm S b c) : Frm S a c := h.trans' k (fun _ _ t => t)
theorem mono (h : Frm S a b) (hS : ∀ i, i < a.heap.size → S i → T i) : Frm T a b :=
 ⟨h.os, h.tape, h.output, h.size, fun i hi hn => h.block i hi (fun s => hn (hS i hi s))⟩
theorem drew (h : Frm S a w) : Frm S a w.drew := ⟨h.os, h.tape, h.output, h.size, h.block⟩
theorem drewN (h : Frm S a w) (n : Nat) : Frm S a (w.drewN n) := ⟨h.os, h.tape, h.output, h.size, h.block⟩
theorem alloc (h : Frm S a w) (o : Obj) : Frm S a (w.alloc o) :=
 h.trans ⟨rfl, rfl, rfl, by simp, fun k hk _ => Below.heap_alloc _ _ _ hk⟩
theorem setCell (h : Frm S a w) {p : Addr} (hp : p.block < a.heap.size → S p.block) (u : Value) : Frm S a (w.setCell p u) :=
 ⟨h.os, h.tape, h.output, by simpa [World.setCell] using h.size, fun k hk hn => (Below.heap_setCell _ _ _ _ (fun e => hn (by subst e; exact hp hk))).trans (h.block k hk hn)⟩
theorem of_grown {row : Option Nat} (hg : w.grownBy w' row) : Frm (fun k => row = some k) w w' := ⟨hg.os, hg.tape, hg.output, hg.size, fun k hk hn => hg.block k hk (fun e => hn e.symm)⟩
theorem below {B : Nat} (h : Frm S w w') (hB : B ≤ w.heap.size) (hS : ∀ k, k < B → ¬ S k) : Below B w w' :=
 ⟨h.os, h.tape, h.output, h.size, fun k hk => h.block k (by omega) (hS k hk)⟩
theorem cell (h : Frm S w w') {p : Addr} (hp : p.block < w.heap.size) (hn : ¬ S p.block) : w'.cell? p = w.cell? p := World.cell?_of_block (w := w) (h.block p.block hp hn)
end Frm
abbrev Fresh (w w' : World) : Prop := Frm (fun _ => False) w w'
theorem Fresh.frm {S : Nat → Prop} {w w' : World} (h : Fresh w w') : Frm S w w' := h.mono (fun _ _ f => f.elim)
theorem Fresh.below {w w' : World} (h : Fresh w w') : Below w.heap.size w w' := Frm.below h (zf _) (fun _ _ f => f)
def Rd (w : World) (B : Nat) (A : Option Addr) (xs : List Value) : Prop :=
 xs ≠ [] → ∃ b o, A = some ⟨b, o, none⟩ ∧ b < B ∧ ∀ j u, xs[j]? = some u → w.cell? ⟨b, o + j, none⟩ = some u
namespace Rd
variable {w w' : World} {B B' : Nat} {A : Option Addr} {xs : List Value}
theorem nil (w : World) (B : Nat) (A : Option Addr) : Rd w B A [] := fun h => absurd rfl h
theorem keep (h : Rd w B A xs) (hk : ∀ p : Addr, p.block < B → w'.cell? p = w.cell? p) : Rd w' B A xs := fun hx => by
 obtain ⟨b, o, rfl, hb, hc⟩ := h hx
 exact ⟨b, o, rfl, hb, fun j u hu => (hk _ hb).trans (hc j u hu)⟩
theorem more (h : Rd w B A xs) (hB : B ≤ B') : Rd w B' A xs := fun hx => by
 obtain ⟨b, o, e, hb, hc⟩ := h hx
 exact ⟨b, o, e, by omega, hc⟩
theorem below (h : Rd w B A xs) (hb : Below B w w') : Rd w' B A xs := h.keep fun _ hp => hb.cell hp
theorem drew (h : Rd w B A xs) : Rd w.drew B A xs := h
theorem frm {S : Nat → Prop} (h : Rd w B A xs) (hB : B ≤ w.heap.size) (hf : Frm S w w') (hn : ∀ p, A = some p → p.block < B → ¬ S p.block) : Rd w' B A xs := fun hx => by
 obtain ⟨b, o, e, hb, hc⟩ := h hx
 exact ⟨b, o, e, hb, fun j u hu => (hf.cell (p := ⟨b, o + j, none⟩) (Nat.lt_of_lt_of_le hb hB) (hn ⟨b, o, none⟩ e hb)).trans (hc j u hu)⟩
theorem fresh (h : Rd w B A xs) (hB : B ≤ w.heap.size) (hf : Fresh w w') : Rd w' B A xs := h.frm hB hf (fun _ _ _ f => f)
theorem alloc (h : Rd w B A xs) (hB : B ≤ w.heap.size) (o : Obj) : Rd (w.alloc o) B A xs := h.fresh hB ((Frm.refl _ _).alloc o)
theorem at_ {k : Nat} (h : Rd w B A xs) (hk : k < xs.length) : ∃ b o, A = some ⟨b, o, none⟩ ∧ b < B ∧ w.cell? ⟨b, o + k, none⟩ = some xs[k] := by
 obtain ⟨b, o, e, hb, hc⟩ := h (by intro e; rw [e] at hk; simp at hk)
 exact ⟨b, o, e, hb, hc k _ (zH hk)⟩
theorem cut (h : Rd w B A xs) {k cap : Nat} (hc : xs.length ≤ cap) : Rd w B (if cap = k then A else A.map (·.add k)) (xs.drop k) := fun hx => by
 have hl : k < xs.length := by
  rcases zL k xs.length with h | h
  ·exact h
  ·exact absurd (List.drop_eq_nil_of_le h) hx
 obtain ⟨b, o, rfl, hb, hcell⟩ := h (by rintro rfl; simp at hl)
 rw [zk (by omega)]
 refine ⟨b, o + k, by simp [Addr.add_lit], hb, fun j u hu => ?_⟩
 rw [Nat.add_assoc]
 exact hcell _ u (by rw [← hu, List.getElem?_drop])
theorem take (h : Rd w B A xs) (k : Nat) : Rd w B A (xs.take k) := fun hx => by
 obtain ⟨b, o, e, hb, hc⟩ := h (by rintro rfl; simp at hx)
 refine ⟨b, o, e, hb, fun j u hu => hc j u ?_⟩
 rw [List.getElem?_take] at hu
 split at hu
 ·exact hu
 ·cases hu
end Rd
def Blk (w : World) (g : Nat) (t : TypeId) (cs : Array Value) : Prop := w.heap[g]? = some (.cells cs t (0, 0))
namespace Blk
variable {w w' : World} {g : Nat} {t : TypeId} {cs : Array Value}
theorem lt (h : Blk w g t cs) : g < w.heap.size := by
 rcases zL g w.heap.size with hlt | hge
 ·exact hlt
 ·unfold Blk at h; rw [Array.getElem?_eq_none hge] at h; cases h
theorem cell (h : Blk w g t cs) (i : Nat) : w.cell? ⟨g, i, none⟩ = cs[i]? := cell_of_row w g i cs t (0, 0) h
theorem frozen (h : Blk w g t cs) (i : Nat) : w.frozen? ⟨g, i, none⟩ = false := by
 unfold Blk at h
 simp [World.frozen?, h]
theorem new (w : World) (t : TypeId) (cs : Array Value) : Blk (w.alloc (.cells cs t)) w.heap.size t cs := heap_alloc_new w _
theorem frm {S : Nat → Prop} (h : Blk w g t cs) (hf : Frm S w w') (hn : ¬ S g) : Blk w' g t cs := (hf.block g h.lt hn).trans h
theorem set (h : Blk w g t cs) (i : Nat) (u : Value) : Blk (w.setCell ⟨g, i, none⟩ u) g t (cs.setIfInBounds i u) := by
 unfold Blk at h ⊢
 simp [World.setCell, Array.getElem?_modify, h]
theorem far (h : Blk w g t cs) {p : Addr} (hp : g ≠ p.block) (u : Value) : Blk (w.setCell p u) g t cs := (Below.heap_setCell w p u g hp).trans h
theorem alloc (h : Blk w g t cs) (o : Obj) : Blk (w.alloc o) g t cs := (Below.heap_alloc w o g h.lt).trans h
theorem apart {g' : Nat} {t' : TypeId} {cs' : Array Value} (h : Blk w g t cs) (h' : Blk w g' t' cs') (hne : t ≠ t') : g ≠ g' := by
 rintro rfl
 unfold Blk at h h'
 rw [h] at h'
 injection h' with h'
 injection h' with _ ht
 exact hne ht
end Blk
def Sl (w : World) (B : Nat) (e : TypeId) (size : Nat) (v : Value) (n : Nat) (xs : List Value) : Prop :=
 xs.length = n * size ∧
 ((v = .slice none 0 0 ∧ n = 0) ∨
  ∃ g o cap cur, v = .slice (some ⟨g, o, none⟩) n cap ∧ B ≤ g ∧ Blk w g e cur ∧ n ≤ cap ∧ cap ≤ maxLen ∧ o + cap * size ≤ cur.size ∧ ∀ j u, xs[j]? = some u → cur[o + j]? = some u)
namespace Sl
variable {w w' : World} {B B' : Nat} {e : TypeId} {size : Nat} {v : Value} {n : Nat} {xs : List Value}
theorem nil (w : World) (B : Nat) (e : TypeId) (size : Nat) : Sl w B e size (.slice none 0 0) 0 [] := ⟨by simp, .inl ⟨rfl, rfl⟩⟩
theorem of_row (h : w.ownsRow B e size v n xs) : Sl w B e size v n xs := by
 obtain ⟨h1, h2⟩ := h
 refine ⟨h1, ?_⟩
 rcases h2 with h2 | ⟨g, cap, cur, hv, hb, hh, hn, hm, hs, ht⟩
 ·exact .inl h2
 ·refine .inr ⟨g, 0, cap, cur, hv, hb, hh, hn, hm, by omega, fun j u hu => ?_⟩
  rw [← ht, List.getElem?_take] at hu
  split at hu
  ·simpa using hu
  ·cases hu
theorem less (h : Sl w B e size v n xs) (hB : B' ≤ B) : Sl w B' e size v n xs := by
 obtain ⟨h1, h2⟩ := h
 rcases h2 with h2 | ⟨g, o, cap, cur, hv, hb, hh, hr⟩
 ·exact ⟨h1, .inl h2⟩
 ·exact ⟨h1, .inr ⟨g, o, cap, cur, hv, by omega, hh, hr⟩⟩
theorem frm {S : Nat → Prop} (h : Sl w B e size v n xs) (hf : Frm S w w') (hn : ∀ k, v.ownBlock = some k → ¬ S k) : Sl w' B e size v n xs := by
 obtain ⟨h1, h2⟩ := h
 rcases h2 with h2 | ⟨g, o, cap, cur, hv, hb, hh, hr⟩
 ·exact ⟨h1, .inl h2⟩
 ·exact ⟨h1, .inr ⟨g, o, cap, cur, hv, hb, hh.frm hf (hn g (by rw [hv]; rfl)), hr⟩⟩
theorem fresh (h : Sl w B e size v n xs) (hf : Fresh w w') : Sl w' B e size v n xs := h.frm hf (fun _ _ f => f)
theorem drew (h : Sl w B e size v n xs) : Sl w.drew B e size v n xs := h
theorem drewN (h : Sl w B e size v n xs) (k : Nat) : Sl (w.drewN k) B e size v n xs := h
theorem alloc (h : Sl w B e size v n xs) (o : Obj) : Sl (w.alloc o) B e size v n xs := h.fresh ((Frm.refl _ _).alloc o)
theorem lt (h : Sl w B e size v n xs) : ∀ k, v.ownBlock = some k → B ≤ k ∧ k < w.heap.size := by
 intro k hk
 rcases h.2 with ⟨rfl, _⟩ | ⟨g, o, cap, cur, rfl, hb, hh, hr⟩
 ·simp [Value.ownBlock] at hk
 ·have : g = k := by simpa [Value.ownBlock] using hk
  subst this
  exact ⟨hb, hh.lt⟩
theorem apart {g : Nat} {t : TypeId} {cs : Array Value} (h : Sl w B e size v n xs) (hg : Blk w g t cs) (hne : e ≠ t) : v.ownBlock ≠ some g := by
 rcases h.2 with ⟨rfl, _⟩ | ⟨g', o, cap, cur, rfl, hb, hh, hr⟩
 ·simp [Value.ownBlock]
 ·intro he
  have : g' = g := by simpa [Value.ownBlock] using he
  exact hh.apart hg hne this
theorem shape (h : Sl w B e size v n xs) : ∃ A cap, v = .slice A n cap ∧ n ≤ cap ∧ cap ≤ maxLen ∧ (A = none → n = 0 ∧ cap = 0) := by
 rcases h.2 with ⟨rfl, rfl⟩ | ⟨g, o, cap, cur, rfl, hb, hh, hn, hm, hr⟩
 ·exact ⟨none, 0, rfl, by omega, by simp [maxLen], fun _ => ⟨rfl, rfl⟩⟩
 ·exact ⟨_, _, rfl, hn, hm, fun h => by cases h⟩
theorem rd {A : Option Addr} {m c : Nat} (h : Sl w B e size (.slice A m c) n xs) : Rd w w.heap.size A xs := fun hx => by
 rcases h.2 with ⟨hv, h0⟩ | ⟨g, o, cap, cur, hv, hb, hh, hn, hm, hs, hc⟩
 ·subst h0
  exact absurd (List.eq_nil_of_length_eq_zero (by simpa using h.1)) hx
 ·injection hv with hA _ _
  exact ⟨g, o, hA, hh.lt, fun j u hu => by rw [hh.cell]; exact hc j u hu⟩
theorem head (h : Sl w B e size v n xs) (hn : 0 < n) : ∃ g o cap, v = .slice (some ⟨g, o, none⟩) n cap ∧ B ≤ g ∧ g < w.heap.size ∧ n ≤ cap ∧ cap ≤ maxLen := by
 rcases h.2 with ⟨_, h0⟩ | ⟨g, o, cap, cur, hv, hb, hh, hn', hm, hs, hc⟩
 ·omega
 ·exact ⟨g, o, cap, hv, hb, hh.lt, hn', hm⟩
theorem store {g o m cap : Nat} (h : Sl w B e size (.slice (some ⟨g, o, none⟩) m cap) n xs) {j : Nat} (hj : j < xs.length) (u : Value) :
 Sl (w.setCell ⟨g, o + j, none⟩ u) B e size (.slice (some ⟨g, o, none⟩) m cap) n (xs.set j u) := by
 obtain ⟨h1, h2⟩ := h
 rcases h2 with ⟨hv, _⟩ | ⟨g', o', cap', cur, hv, hb, hh, hn, hm, hs, hc⟩
 ·cases hv
 ·injection hv with hA hm' hcap
  injection hA with hA
  injection hA with hg ho
  subst hg ho hm' hcap
  refine ⟨by rw [zz]; exact h1, .inr ⟨g, o, cap, _, rfl, hb, hh.set _ u, hn, hm, by simpa using hs, fun i x hx => ?_⟩⟩
  rw [List.getElem?_set] at hx
  by_cases hij : j = i
  ·subst hij
   rw [zl rfl] at hx
   have hlt : o + j < cur.size := by
    have := Nat.mul_le_mul_right size hn
    omega
   rw [zl (by omega)] at hx
   injection hx with hx
   subst hx
   simp [hlt]
  ·rw [zk hij] at hx
   rw [Array.getElem?_setIfInBounds, zk (by omega)]
   exact hc i x hx
theorem cell {g o m cap : Nat} (h : Sl w B e size (.slice (some ⟨g, o, none⟩) m cap) n xs) {j : Nat} (hj : j < xs.length) : w.cell? ⟨g, o + j, none⟩ = some xs[j] := by
 obtain ⟨b, o', hA, _, hc⟩ := h.rd.at_ hj
 injection hA with hA
 injection hA with hb ho
 subst hb ho
 exact hc
theorem frozen {g o m cap : Nat} (h : Sl w B e size (.slice (some ⟨g, o, none⟩) m cap) n xs) (j : Nat) : w.frozen? ⟨g, j, none⟩ = false := by
 rcases h.2 with ⟨hv, _⟩ | ⟨g', o', cap', cur, hv, hb, hh, hr⟩
 ·cases hv
 ·injection hv with hA _ _
  injection hA with hA
  injection hA with hg _
  subst hg
  exact hh.frozen j
end Sl
theorem blk_setCells {e : TypeId} (g : Nat) : ∀ (vs : List Value) (o : Nat) (w : World) (cur : Array Value), Blk w g e cur → o + vs.length ≤ cur.size →
 ∃ cur', Blk (w.setCells g o vs) g e cur' ∧ cur'.size = cur.size ∧ (∀ j, j < o ∨ o + vs.length ≤ j → cur'[j]? = cur[j]?) ∧ ∀ j u, vs[j]? = some u → cur'[o + j]? = some u
 | [], _, w, cur, h, _ => ⟨cur, h, rfl, fun _ _ => rfl, fun j u hu => by simp at hu⟩
 | v :: r, o, w, cur, h, hl => by
  simp only [zG] at hl
  obtain ⟨cur', h1, h2, h3, h4⟩ := blk_setCells g r (o + 1) _ _ (h.set o v) (by simp; omega)
  refine ⟨cur', h1, by rw [h2]; simp, fun j hj => ?_, fun j u hu => ?_⟩
  ·simp only [zG] at hj
   rw [h3 j (by omega), Array.getElem?_setIfInBounds, zk (by omega)]
  ·match j, hu with
   | 0, hu =>
    have : v = u := by simpa using hu
    subst this
    rw [h3 (o + 0) (by omega)]
    simp [show o < cur.size by omega]
   | j + 1, hu =>
    have := h4 j u (by simpa using hu)
    rw [show o + (j + 1) = o + 1 + j by omega]
    exact this
theorem jG {w : World} {g : Nat} {e : TypeId} {cur : Array Value} (h : Blk w g e cur) {vs : List Value} (hl : vs.length = cur.size) : Blk (w.setCells g 0 vs) g e vs.toArray := by
 obtain ⟨cur', h1, h2, _, h4⟩ := blk_setCells g vs 0 w cur h (by omega)
 have : cur' = vs.toArray := by
  apply Array.ext_getElem?
  intro i
  rcases zL i vs.length with hi | hi
  ·have := h4 i vs[i] (zH hi)
   rw [Nat.zero_add] at this
   rw [this]
   simp [hi]
  ·rw [Array.getElem?_eq_none (by omega), Array.getElem?_eq_none (by simpa using hi)]
 rwa [this] at h1
theorem jE (g : Nat) : ∀ (vs : List Value) (o : Nat) (w : World), Frm (fun k => g = k) w (w.setCells g o vs)
 | [], _, w => Frm.refl _ w
 | v :: r, o, w => ((Frm.refl _ w).setCell (p := ⟨g, o, none⟩) (fun _ => rfl) v).trans ((jE g r (o + 1) _).mono (fun _ _ h => h))
section
variable {P : Program} (w : World)
theorem run_append_sl (B : Nat) (t ty e : TypeId) (i : TypeInfo) (z : Value) (size bytes : Nat) (ht : P.underlying t = some (.slice e)) (hi : P.info? e = some i) (hz : i.zero = some z)
 (hsize : i.size = size) (hby : i.bytes = bytes) (hzs : z.cells.size = size) (hsz : 0 < size)
 (v : Value) (n : Nat) (xs : List Value) (hown : Sl w B e size v n xs)
 (B' : Nat) (A : Option Addr) (m c : Nat) (news : List Value) (hl : news.length = m * size) (hr : Rd w B' A news) (h1 : ∀ u ∈ news, u.oneCell' = true)
 (h63 : n + m ≤ maxLen) (hbytes : (n + m) * bytes ≤ 140737488355328) (hB : B ≤ w.heap.size) :
 ∃ v' w', (Builtin.append_ #[t, t] ty #[v, .slice A m c]).run P w = .ok v' w' ∧ Sl w' B e size v' (n + m) (xs ++ news) ∧ Frm (fun k => v.ownBlock = some k) w w' ∧ (v'.ownBlock = v.ownBlock ∨ v'.ownBlock = some w.heap.size) := by
 -- nothing is appended
 by_cases hm0 : m = 0
 ·subst hm0
  have hnil : news = [] := List.eq_nil_of_length_eq_zero (by simpa using hl)
  subst hnil
  refine ⟨v, w, ?_, by simpa using hown, Frm.refl _ _, .inl rfl⟩
  obtain ⟨A', cap, rfl, hnc, _, hno⟩ := hown.shape
  rcases A with _ | a <;> rcases A' with _ | a'
  ·obtain ⟨rfl, rfl⟩ := hno rfl
   simp [Builtin.append_, run_underlying ht, sizeOf, typeInfo, hi, Builtin.lenOf, Builtin.firstCells]
  ·simp [Builtin.append_, run_underlying ht, sizeOf, typeInfo, hi, Builtin.lenOf, Builtin.firstCells, hnc, storeCells]
  ·obtain ⟨rfl, rfl⟩ := hno rfl
   have hf := run_firstCells_some (P := P) w i.size 0 a 0 c [] (by simp) (by simp)
   simp [Builtin.append_, run_underlying ht, sizeOf, typeInfo, hi, Builtin.lenOf, hf]
  ·have hf := run_firstCells_some (P := P) w i.size 0 a 0 c [] (by simp) (by simp)
   simp [Builtin.append_, run_underlying ht, sizeOf, typeInfo, hi, Builtin.lenOf, hf, hnc, storeCells]
 ·-- something is
  have hne : news ≠ [] := by
   rintro rfl
   have h0 : 0 < m * size := Nat.mul_pos (by omega) hsz
   simp only [zX] at hl
   omega
  obtain ⟨b, o', hA, hb, hcell⟩ := hr hne
  subst hA
  have hcells : ∀ j u, news[j]? = some u → w.cell? ((⟨b, o', none⟩ : Addr).add j) = some u := fun j u hu => by rw [Addr.add_lit]; exact hcell j u hu
  rcases hown.2 with ⟨rfl, rfl⟩ | ⟨g, o, cap, cur, rfl, hBg, hblk, hn, hm, hs, hc⟩
  ·have hxs : xs = [] := List.eq_nil_of_length_eq_zero (by simpa using hown.1)
   subst hxs
   obtain ⟨v', w', hrun, h2, h3, _⟩ := run_append_own (P := P) w w.heap.size t ty e i z size bytes ht hi hz hsize hby hzs hsz (.slice none 0 0) 0 [] (World.ownsRow_nil w _ e size) ⟨b, o', none⟩ m c news hl hcells h1 h63 hbytes (zf _)
   have hs' := Sl.of_row h2
   refine ⟨v', w', hrun, hs'.less hB, Frm.of_grown h3, .inr ?_⟩
   obtain ⟨v2, w2, hrun2, h22, _, _, h25⟩ := run_append_own_at (P := P) w w.heap.size t ty e i z size bytes ht hi hz hsize hby hzs hsz (.slice none 0 0) 0 [] (World.ownsRow_nil w _ e size) ⟨b, o', none⟩ m c news hl hcells h1 h63 hbytes (zf _)
   rw [hrun] at hrun2
   injection hrun2 with e1 e2
   subst e1 e2
   rcases h25 with h | h
   ·rcases hs'.2 with ⟨rfl, h0⟩ | ⟨g, o, cap, cur, rfl, _⟩
    ·omega
    ·simp [Value.ownBlock] at h
   ·exact h
  ·by_cases hroom : n + m ≤ cap
   ·subst hsize
    have hfit : o + n * i.size + news.length ≤ cur.size := by
     have : (n + m) * i.size ≤ cap * i.size := Nat.mul_le_mul_right _ hroom
     rw [Nat.add_mul] at this
     omega
    have hrun := run_append_room_cells (P := P) w t ty e i ht hi g o n cap ⟨b, o', none⟩ m c news hl hcells h1 hroom
     (fun j hj => by rw [hblk.cell]; simp; omega) (fun j _ => hblk.frozen _)
    obtain ⟨cur', k1, k2, k3, k4⟩ := blk_setCells g news (o + n * i.size) w cur hblk hfit
    refine ⟨_, _, hrun, ⟨by rw [zg, hown.1, hl, Nat.add_mul], .inr ⟨g, o, cap, cur', rfl, hBg, k1, hroom, hm, by omega, fun j u hu => ?_⟩⟩, (jE g news _ w).mono (fun k _ h => by simp [Value.ownBlock, h]), .inl rfl⟩
    rw [List.getElem?_append] at hu
    split at hu
    ·rename_i hj
     rw [k3 _ (.inl (by have := hown.1; omega))]
     exact hc j u hu
    ·rename_i hj
     have hj' := hown.1
     have := k4 (j - n * i.size) u (by rw [← hu]; congr 1; omega)
     rw [← this]
     congr 1
     omega
   ·obtain ⟨v', w', hrun, r1, r2⟩ := run_append_arg_grows (P := P) w t ty e i z size bytes ht hi hz hsize hby hzs hsz ⟨g, o, none⟩ n cap xs hown.1 (fun j u hu => by rw [Addr.add_lit, hblk.cell]; exact hc j u hu) ⟨b, o', none⟩ m c news hl hcells (by omega) h63 hbytes
    refine ⟨v', w', hrun, (Sl.of_row r1).less hB, (Frm.of_grown r2).mono (fun _ _ h => by cases h), .inr ?_⟩
    have hr2 := run_append_grow (P := P) w t ty e i z ht hi hz ⟨g, o, none⟩ n cap xs (by rw [hsize]; exact hown.1) (fun j u hu => by rw [Addr.add_lit, hblk.cell]; exact hc j u hu) ⟨b, o', none⟩ m c news (by rw [hsize]; exact hl) hcells (by omega) (by simp only [maxLen] at h63; omega) (by rw [hby]; exact growslice_fits (by omega) hbytes)
    rw [hrun] at hr2
    injection hr2 with e1 e2
    subst e1
    rfl
theorem jD {ops : Array Oper} {rest : List Oper} {o : Oper} {a : Act} {Q : Exit → Act → World → Prop} (hgd : o.guard = none) (s x : Operand) (t : TypeId)
 (ho : o.op = .call { callee := .builtin .append, args := #[s, x], argTypes := #[t, t] })
 (B : Nat) (e : TypeId) (i : TypeInfo) (z : Value) (size bytes : Nat) (ht : P.underlying t = some (.slice e)) (hi : P.info? e = some i) (hz : i.zero = some z)
 (hsize : i.size = size) (hby : i.bytes = bytes) (hzs : z.cells.size = size) (hsz : 0 < size)
 (v : Value) (n : Nat) (xs : List Value) (hs : a.eval s = v) (hown : Sl w B e size v n xs)
 (B' : Nat) (A : Option Addr) (m c : Nat) (news : List Value) (hx : a.eval x = .slice A m c) (hl : news.length = m * size) (hr : Rd w B' A news) (h1 : ∀ u ∈ news, u.oneCell' = true)
 (h63 : n + m ≤ maxLen) (hbytes : (n + m) * bytes ≤ 140737488355328) (hB : B ≤ w.heap.size)
 (h : ∀ v' w', Sl w' B e size v' (n + m) (xs ++ news) → Frm (fun k => v.ownBlock = some k) w w' → (v'.ownBlock = v.ownBlock ∨ v'.ownBlock = some w.heap.size) → wpList P ops Q rest (a.put o.dst v') w') : wpList P ops Q (o :: rest) a w := by
 refine wpList_plain hgd fun K hK => ?_
 obtain ⟨v', w', hrun, h2, h3, h4⟩ := run_append_sl (P := P) w B t o.type e i z size bytes ht hi hz hsize hby hzs hsz v n xs hown B' A m c news hl hr h1 h63 hbytes hB
 unfold Oper.wp execOp
 simp only [ho, resolve, invoke, builtin, Sem.run_bind, Sem.run_pure, Result.andThen_ok, List.map_toArray, zW, List.map_nil, hs, hx, hrun]
 exact hK _ _ (h v' w' h2 h3 h4)
end
theorem qE (w : World) (x : Value) (t : TypeId) : Rd (w.alloc (.cells #[x] t)) (w.heap.size + 1) (some ⟨w.heap.size, 0, none⟩) [x] := fun _ =>
 ⟨w.heap.size, 0, rfl, by omega, fun j u hu => by
  have := cell_one_new w x t j u hu
  rwa [Addr.add_lit] at this⟩
theorem jL (w : World) (xs : List Value) (t : TypeId) : Rd (w.alloc (.cells xs.toArray t)) (w.heap.size + 1) (some ⟨w.heap.size, 0, none⟩) xs := fun _ =>
 ⟨w.heap.size, 0, rfl, by omega, fun j u hu => by
  rw [(Blk.new w t xs.toArray).cell]
  simpa using hu⟩
theorem sl_new (w : World) (B : Nat) (xs : List Value) (t : TypeId) (hB : B ≤ w.heap.size) (hm : xs.length ≤ maxLen) : Sl (w.alloc (.cells xs.toArray t)) B t 1 (.slice (some ⟨w.heap.size, 0, none⟩) xs.length xs.length) xs.length xs :=
 ⟨by simp, .inr ⟨w.heap.size, 0, xs.length, xs.toArray, rfl, hB, Blk.new w t _, zf _, hm, by simp, fun j u hu => by simpa using hu⟩⟩
abbrev za := @Frm.refl
end
section
open Go.RowKit Go.ChangeShapes Go.WideShapes
def bv (b : UInt8) : Value := .int .u8 (b.toNat : Int)
theorem bv_one (l : List UInt8) : ∀ u ∈ l.map bv, u.oneCell' = true := by
 intro u hu
 obtain ⟨_, _, rfl⟩ := zQ.1 hu
 rfl
theorem bytes_of_ints : ∀ (zs : List Int), (∀ n ∈ zs, (Lit.int .u8 n).wf = true) → ∃ bs : List UInt8, zs = bs.map (fun b => (b.toNat : Int))
 | [], _ => ⟨[], rfl⟩
 | z :: r, h => by
  obtain ⟨bs, hb⟩ := bytes_of_ints r (fun n hn => h n (by simp [hn]))
  have hz := h z (by simp)
  have : 0 ≤ z ∧ z ≤ 255 := by simpa [Lit.wf, IntKind.min, IntKind.max, IntKind.signed, IntKind.bits] using hz
  refine ⟨UInt8.ofNat z.toNat :: bs, ?_⟩
  rw [hb]
  have e : (UInt8.ofNat z.toNat).toNat = z.toNat := by rw [UInt8.toNat_ofNat']; omega
  simp only [zW, e]
  congr 1
  omega
section
variable {H : Type} {enc : TypeId × Value → H} {P : Program} {W : World} {base : Nat} {t e : TypeId} {k : IntKind} {v : Value} {d : DataW H} {p : List MemPlace}
end
end
namespace FieldM
open Go.Lib
def wid (n : Nat) : Nat := (Lib.bitLen n + 7) / 8
def be : Nat → Nat → List UInt8
 | 0, _ => []
 | k + 1, n => be k (n / 256) ++ [UInt8.ofNat (n % 256)]
def num (n : Nat) : List UInt8 := UInt8.ofNat (wid n) :: be (wid n) n
theorem be_length (k n : Nat) : (be k n).length = k := by
 induction k generalizing n with
 | zero => rfl
 | succ k ih => rw [be, zg, ih]; rfl
theorem bitLen_zero : Lib.bitLen 0 = 0 := by decide
theorem bitLen_pos {n : Nat} (h0 : n ≠ 0) (h : n < 18446744073709551616) : 1 ≤ Lib.bitLen n := by
 rw [bitLen_half n h0 (by simpa using h)]; omega
theorem bitLen_small {n : Nat} (h : n < 256) : Lib.bitLen n ≤ 8 := Lib.bitLen_le8 ⟨n, h⟩
theorem wid_zero : wid 0 = 0 := by unfold wid; rw [bitLen_zero]
theorem wid_step {n : Nat} (h0 : n ≠ 0) (h : n < 18446744073709551616) : wid n = wid (n / 256) + 1 := by
 unfold wid
 by_cases hs : n < 256
 ·have h1 := bitLen_pos h0 h
  have h2 := bitLen_small hs
  have : n / 256 = 0 := by omega
  rw [this, bitLen_zero]
  omega
 ·rw [bitLen_shift8 n (by omega) h]
  omega
theorem wid_lt (k : Nat) : ∀ n, n < 18446744073709551616 → (n < 256 ^ k ↔ wid n ≤ k) := by
 induction k with
 | zero =>
  intro n h
  rw [Nat.pow_zero]
  by_cases h0 : n = 0
  ·subst h0; rw [wid_zero]; omega
  ·rw [wid_step h0 h]; omega
 | succ k ih =>
  intro n h
  by_cases h0 : n = 0
  ·subst h0; rw [wid_zero]; simp [Nat.pow_pos]
  ·rw [wid_step h0 h]
   have := ih (n / 256) (by omega)
   rw [Nat.pow_succ]
   omega
theorem wid_le {n : Nat} (h : n < 18446744073709551616) : wid n ≤ 8 := by
 have := (wid_lt 8 n h).1
 exact this (by simpa using h)
theorem num_length (n : Nat) : (num n).length = wid n + 1 := by unfold num; rw [zG, be_length]
theorem be_get (k n j : Nat) (hj : j < k) : (be k n)[j]? = some (UInt8.ofNat (n / 256 ^ (k - 1 - j) % 256)) := by
 induction k generalizing n with
 | zero => omega
 | succ k ih =>
  rw [be]
  by_cases h : j < k
  ·rw [List.getElem?_append_left (by rw [be_length]; exact h), ih (n / 256) h]
   have e : k + 1 - 1 - j = (k - 1 - j) + 1 := by omega
   rw [e, Nat.pow_succ, Nat.mul_comm, ← Nat.div_div_eq_div_mul]
  ·have : j = k := by omega
   subst this
   rw [List.getElem?_append_right (by rw [be_length]; omega), be_length]
   simp
theorem be_take_succ (k n j : Nat) (hj : j < k) : (be k n).take (j + 1) = (be k n).take j ++ [UInt8.ofNat (n / 256 ^ (k - 1 - j) % 256)] := by
 rw [List.take_add_one, be_get k n j hj]
 rfl
def pre (n j : Nat) : List UInt8 := UInt8.ofNat (wid n) :: (be (wid n) n).take j
theorem pre_zero (n : Nat) : pre n 0 = [UInt8.ofNat (wid n)] := rfl
theorem pre_all (n : Nat) : pre n (wid n) = num n := by unfold pre num; rw [zD (by rw [be_length]; omega)]
theorem pre_step {n r : Nat} (h0 : 0 < r) (hr : r ≤ wid n) : pre n (wid n - (r - 1)) = pre n (wid n - r) ++ [UInt8.ofNat (n / 256 ^ (r - 1) % 256)] := by
 unfold pre
 rw [show wid n - (r - 1) = (wid n - r) + 1 by omega, be_take_succ _ _ _ (by omega), show wid n - 1 - (wid n - r) = r - 1 by omega]
 rfl
theorem shr_byte (n k : Nat) : (n : Int) / 2 ^ (8 * k) % 256 = ((UInt8.ofNat (n / 256 ^ k % 256)).toNat : Int) := by
 have e : (UInt8.ofNat (n / 256 ^ k % 256)).toNat = n / 256 ^ k % 256 := by rw [UInt8.toNat_ofNat']; omega
 have p : (2 : Nat) ^ (8 * k) = 256 ^ k := by rw [Nat.pow_mul]
 rw [e, ← p]
 rfl
theorem be_cons (k n : Nat) : be (k + 1) n = UInt8.ofNat (n / 256 ^ k % 256) :: be k n := by
 induction k generalizing n with
 | zero => simp [be]
 | succ k ih =>
  rw [be, ih (n / 256), be]
  have e : n / 256 / 256 ^ k = n / 256 ^ (k + 1) := by rw [Nat.div_div_eq_div_mul, Nat.pow_succ, Nat.mul_comm]
  rw [e]
  simp
def text (b : List UInt8) : List UInt8 := num b.length ++ b
def val : List UInt8 → Nat → Nat
 | [], a => a
 | b :: l, a => val l (a * 256 + b.toNat)
theorem val_append (l m : List UInt8) (a : Nat) : val (l ++ m) a = val m (val l a) := by
 induction l generalizing a with
 | nil => rfl
 | cons b l ih => exact ih _
theorem val_be (k n a : Nat) : val (be k n) a = a * 256 ^ k + n % 256 ^ k := by
 induction k generalizing n with
 | zero => simp [be, val, Nat.mod_one]
 | succ k ih =>
  rw [be, val_append, ih]
  have e : (UInt8.ofNat (n % 256)).toNat = n % 256 := by rw [UInt8.toNat_ofNat']; omega
  show (a * 256 ^ k + n / 256 % 256 ^ k) * 256 + (UInt8.ofNat (n % 256)).toNat = _
  rw [e, Nat.pow_succ, Nat.add_mul, Nat.mul_assoc, Nat.add_assoc]
  congr 1
  have h1 : n % (256 ^ k * 256) = 256 * (n / 256 % 256 ^ k) + n % 256 := by rw [Nat.mul_comm (256 ^ k), Nat.mod_mul]; omega
  rw [h1]
  omega
theorem val_be_wid {n : Nat} (h : n < 18446744073709551616) : val (be (wid n) n) 0 = n := by
 rw [val_be, Nat.zero_mul, Nat.zero_add]
 exact Nat.mod_eq_of_lt ((wid_lt _ n h).2 (zf _))
end FieldM
end Go.Proofs.YtnmokpbomeamfaaGreat
namespace Go.Proofs
open Go.Shelf
def Tryz.lays129_ren : Go.Shelf.Ren := ⟨fun | 129 => 76 | n => n, fun | 53 => 101 | 3 => 3 | 4 => 4 | 46 => 162 | 5 => 5 | 9 => 9 | n => n, fun | n => n⟩
theorem Tryz.lays129 : Go.Proofs.Lays.n129 Tryz.prog Tryz.lays129_ren := {
 mixed := by kernel_rfl
 f129 := Tryz.func76.trans (congrArg some (by kernel_rfl))
 t3 := Tryz.underlying3
 a3 := Tryz.isAgg3
 z3 := Tryz.sizeOf3
 v3 := Tryz.zeroValue3
 t4 := Tryz.underlying4
 a4 := Tryz.isAgg4
 z4 := Tryz.sizeOf4
 v4 := Tryz.zeroValue4
 t5 := Tryz.underlying5
 a5 := Tryz.isAgg5
 z5 := Tryz.sizeOf5
 v5 := Tryz.zeroValue5
 t9 := Tryz.underlying9
 a9 := Tryz.isAgg9
 z9 := Tryz.sizeOf9
 v9 := Tryz.zeroValue9
 t46 := Tryz.underlying162
 a46 := Tryz.isAgg162
 z46 := Tryz.sizeOf162
 v46 := Tryz.zeroValue162
 t53 := Tryz.underlying101
 a53 := Tryz.isAgg101
 z53 := Tryz.sizeOf101
 v53 := Tryz.zeroValue101 }
theorem Tryz.bits_Len64 (x : Int) (w : World) (h0 : 0 ≤ x) (h1 : x ≤ 18446744073709551615) :
 Calls Tryz.prog 76 #[.int .u64 x] w fun e w' => e = .returned (.int .i64 (Lib.bitLen x.toNat)) ∧ w' = w := Any.bits_Len64 Tryz.lays129 x w h0 h1
end Go.Proofs
namespace Go.Proofs.YtnmokpbomeamfaaGreat
section
open Go.RowKit
theorem info_u8 : (Tryz.prog.info? 5).map (fun i => (i.zero, i.size, i.bytes)) = some (some (.int .u8 0), 1, 1) := by kernel_rfl
theorem bv_eq {x : Int} {b : UInt8} (h : x = (b.toNat : Int)) : Value.int .u8 x = bv b := by rw [h]; rfl
theorem number_any (n : Nat) (hn : n < 18446744073709551616) (w : World) :
 Calls Tryz.prog 54 #[.int .u64 (n : Int)] w fun e w' => ∃ v, e = .returned v ∧ Sl w' w.heap.size 5 1 v (FieldM.num n).length ((FieldM.num n).map bv) ∧ Fresh w w' := by
 obtain ⟨i0, hi, hz0, hz1, hz2⟩ := info_parts info_u8
 have K1 := zh (fun w => Tryz.bits_Len64 (n : Int) w (by omega) (by omega))
 have hw := FieldM.wid_le hn
 have hl : Lib.bitLen n ≤ 64 := by unfold FieldM.wid at hw; omega
 have HW := zh (show ((Lib.bitLen n : Int) + 7) / 8 = (FieldM.wid n : Int) by unfold FieldM.wid; omega)
 clear hn
 go_in
 go_wp2_with fail
 refine (K1.out _).mono ?_
 rintro e w' ⟨rfl, rfl⟩
 rw [zx]
 go_wp2_with fail
 go_loopw [3, 4] (fun v3 v4 wr => ∃ r : Nat, r ≤ FieldM.wid n ∧ v3 = .int .i64 (r : Int) ∧ Sl wr w'.heap.size 5 1 v4 (FieldM.wid n - r + 1) ((FieldM.pre n (FieldM.wid n - r)).map bv) ∧ Fresh w' wr) (fun v3 _ _ => (intOf v3).toNat)
 case atStart =>
  refine ⟨FieldM.wid n, zf _, by rw [HW.out], ?_, (za _ _).alloc _⟩
  rw [Nat.sub_self, FieldM.pre_zero, HW.out]
  have e : Value.int .u8 (FieldM.wid n : Int) = bv (UInt8.ofNat (FieldM.wid n)) := bv_eq (by rw [UInt8.toNat_ofNat']; omega)
  rw [e]
  exact sl_new w' _ [bv (UInt8.ofNat (FieldM.wid n))] _ (zf _) (by simp [maxLen])
 case round =>
  obtain ⟨r, hr, rfl, hsl, hfr⟩ := hrel
  have hsz := hfr.size
  by_cases h0 : 0 < r
  ·go_wp2_with (at_builtin; refine jD _ rfl (.tmp 16) (.tmp 22) _ rfl w'.heap.size 5 i0 _ 1 1 Tryz.underlying39 hi hz0 hz1 hz2 rfl (by omega) _ _ _ rfl (hsl.alloc _) _ _ 1 1 _ rfl rfl (qE _ _ _) ?c1 ?c2 ?c3 ?c4 ?_)
   case c1 => intro u hu; simp at hu; subst hu; rfl
   case c2 => unfold maxLen; omega
   case c3 => omega
   case c4 => simp; omega
   intro v2 w2 hs2 hf2 _
   have hb : Value.int IntKind.u8 ((n : Int) / 2 ^ (8 * (r - 1)) % 256) = bv (UInt8.ofNat (n / 256 ^ (r - 1) % 256)) := bv_eq (FieldM.shr_byte n (r - 1))
   rw [hb] at hs2 hf2
   have hs3 : Sl w2 w'.heap.size 5 1 v2 (FieldM.wid n - (r - 1) + 1) ((FieldM.pre n (FieldM.wid n - (r - 1))).map bv) := by
    rw [FieldM.pre_step h0 hr, zn, show FieldM.wid n - (r - 1) + 1 = FieldM.wid n - r + 1 + 1 by omega]
    exact hs2
   have hf3 : Fresh w' w2 := (hfr.alloc _).trans' hf2 (fun i hi hk => by have := hsl.lt i hk; omega)
   clear hs2 hf2 hb
   go_wp2
   go_roundw
   case rel => exact ⟨r - 1, by omega, by go_num, hs3, hf3⟩
   case measure => simp [intOf]; omega
  ·obtain rfl : r = 0 := by omega
   go_wp2
   go_ret
   refine ⟨_, rfl, ?_, hfr⟩
   rw [Nat.sub_zero, FieldM.pre_all] at hsl
   rw [FieldM.num_length]
   exact hsl
theorem text_any (A : Option Addr) (cap : Nat) (bs : List UInt8) (w : World) (hb : Rd w w.heap.size A (bs.map bv)) (hl : bs.length ≤ 140737488351232) :
 Calls Tryz.prog 37 #[.slice A bs.length cap] w fun e w' => ∃ v, e = .returned v ∧ Sl w' w.heap.size 5 1 v (FieldM.text bs).length ((FieldM.text bs).map bv) ∧ Fresh w w' := by
 obtain ⟨i0, hi, hz0, hz1, hz2⟩ := info_parts info_u8
 have hw := FieldM.wid_le (n := bs.length) (by omega)
 have hnl := FieldM.num_length bs.length
 have HNL := zh hnl
 have K := zh (fun w => number_any bs.length (by omega) w)
 clear hnl
 go_in
 go_wp2_with fail
 refine (K.out _).mono ?_
 rintro e w1 ⟨v1, rfl, hs1, hf1⟩
 have hb1 := hb.fresh (zf _) hf1
 have hsz := hf1.size
 go_wp2_with (at_builtin; refine jD _ rfl (.tmp 6) (.tmp 7) _ rfl w.heap.size 5 i0 _ 1 1 Tryz.underlying39 hi hz0 hz1 hz2 rfl (by omega) _ _ _ rfl hs1 _ _ _ _ _ rfl (by simp) hb1 (bv_one _) ?c2 ?c3 hsz ?_)
 case c2 => rw [HNL.out]; unfold maxLen; omega
 case c3 => rw [HNL.out]; omega
 intro v2 w2 hs2 hf2 _
 have hs3 : Sl w2 w.heap.size 5 1 v2 (FieldM.text bs).length ((FieldM.text bs).map bv) := by
  rw [FieldM.text, zg, zn]
  exact hs2
 have hf3 : Fresh w w2 := hf1.trans' hf2 (fun i hi hk => by have := hs1.lt i hk; omega)
 clear hs2 hf2
 go_wp2
 go_ret
 exact ⟨_, rfl, hs3, hf3⟩
end
section
open Go.RowKit Go.ChangeShapes Go.WideShapes
def Reads {H : Type} (enc : TypeId × Value → H) (P : Program) (W : World) (t : TypeId) {α : Type} (f : α → List Value) (Q : α → Prop) : Prop :=
 ∀ fuel cs x, DataW.trod enc P W 0 (fun _ => true) true fuel t cs = some x → (∀ n ∈ x.1.weights P t, n ≤ reachBytes) → ∃ a, cs = f a ∧ Q a
section
variable {H : Type} {enc : TypeId × Value → H} {P : Program} {W : World} {t e : TypeId}
theorem reads_int {k : IntKind} (ht : P.underlying t = some (.int k)) : Reads enc P W t (fun n : Int => [.int k n]) (fun n => (Lit.int k n).wf = true) := by
 intro fuel cs x h _
 obtain ⟨m, rfl, rfl, hw⟩ := DataW.trod_int ht h
 exact ⟨m, rfl, hw⟩
def sv {α : Type} (s : Option Addr × Nat × List α) : Value := .slice s.1 s.2.2.length s.2.1
structure IsL (W : World) (by_ : Nat) {α : Type} (f : α → List Value) (Q : α → Prop) (s : Option Addr × Nat × List α) : Prop where
 le : s.2.2.length ≤ s.2.1
 most : s.2.1 ≤ maxLen
 none_ : s.1 = none → s.2.1 = 0
 rd : Rd W W.heap.size s.1 (s.2.2.flatMap f)
 all : ∀ x ∈ s.2.2, Q x
 reach : s.2.1 * by_ ≤ reachBytes
theorem weights_mem_all {ds : List (DataW H)} {d : DataW H} (hd : d ∈ ds) : ∀ n ∈ d.weights P e, n ∈ DataW.weightsAll P e ds := by
 intro n hn
 induction ds with
 | nil => simp at hd
 | cons c r ih =>
  rw [DataW.weightsAll, zy]
  rcases zU.1 hd with rfl | h
  ·exact .inl hn
  ·exact .inr (ih h)
theorem flatMap_get {α : Type} (f : α → List Value) (size : Nat) : ∀ (xs : List α), (∀ a ∈ xs, (f a).length = size) → ∀ (j : Nat) (u : Value), (xs.flatMap f)[j]? = some u → ∃ i a, xs[i]? = some a ∧ i * size ≤ j ∧ j < (i + 1) * size ∧ (f a)[j - i * size]? = some u := by
 intro xs
 induction xs with
 | nil => intro _ j u h; simp at h
 | cons x r ih =>
  intro hl j u h
  rw [zq, List.getElem?_append] at h
  split at h
  ·rename_i hj
   rw [hl x (by simp)] at hj
   exact ⟨0, x, rfl, by omega, by omega, by simpa using h⟩
  ·rename_i hj
   rw [hl x (by simp)] at hj h
   obtain ⟨i, a, h1, h2, h3, h4⟩ := ih (fun a ha => hl a (by simp [ha])) _ _ h
   refine ⟨i + 1, a, h1, ?_, ?_, ?_⟩
   ·rw [Nat.add_mul]; omega
   ·rw [Nat.add_mul]; omega
   ·rw [Nat.add_mul, Nat.one_mul, show j - (i * size + size) = j - size - i * size by omega]; exact h4
theorem flatMap_len {α : Type} {f : α → List Value} {size : Nat} : ∀ (xs : List α), (∀ a ∈ xs, (f a).length = size) → (xs.flatMap f).length = xs.length * size
 | [], _ => by simp
 | x :: r, h => by
  rw [zq, zg, h x (by simp), flatMap_len r (fun a ha => h a (by simp [ha])), zG, Nat.add_mul]
  omega
theorem list_of {α : Type} {R : Nat → α → Prop} : ∀ n, (∀ i, i < n → ∃ a, R i a) → ∃ xs : List α, xs.length = n ∧ ∀ i a, xs[i]? = some a → R i a
 | 0, _ => ⟨[], rfl, fun i a h => by simp at h⟩
 | n + 1, h => by
  obtain ⟨xs, h1, h2⟩ := list_of n (fun i hi => h i (by omega))
  obtain ⟨a, ha⟩ := h n (by omega)
  refine ⟨xs ++ [a], by simp [h1], fun i b hb => ?_⟩
  rw [List.getElem?_append] at hb
  split at hb
  ·exact h2 i b hb
  ·rename_i hi
   have : i - xs.length = 0 := by
    have := (List.getElem?_eq_some_iff.1 hb).1
    simp at this
    omega
   rw [this] at hb
   simp at hb
   subst hb
   rw [show i = n by omega]
   exact ha
theorem reads_slice {α : Type} {f : α → List Value} {Q : α → Prop} {size by_ : Nat} (ht : P.underlying t = some (.slice e)) (hc : P.cellsOf e = size) (hby : P.bytesOf e = by_) (hsz : 0 < size) (hl : ∀ a, Q a → (f a).length = size)
 (hr : Reads enc P W e f Q) : Reads enc P W t (fun s => [sv s]) (IsL W by_ f Q) := by
 intro fuel cs x h hz
 rcases DataW.trod_slice ht h with ⟨rfl, rfl⟩ | ⟨a, len, cap, elems, rest, n, _, rfl, rfl, hb, hle, hm, hlen, hel, hsp, hns⟩
 ·exact ⟨(none, 0, []), rfl, ⟨by simp, by simp [maxLen], fun _ => rfl, Rd.nil _ _ _, by simp, by simp⟩⟩
 ·have hrest := (hsp rfl).1
  have hw0 : (elems.length + rest.length) * by_ ≤ reachBytes := by
   have := hz ((elems.length + rest.length) * P.bytesOf e) (by simp [DataW.weights, ht])
   rwa [hby] at this
  have hwe : ∀ y ∈ elems, ∀ n ∈ y.1.weights P e, n ≤ reachBytes := fun y hy n hn => hz n (by
   simp only [DataW.weights, ht, zU, zy]
   exact .inr (.inl (weights_mem_all (zQ.2 ⟨y, hy, rfl⟩) n hn)))
  have key : ∀ i, i < len → ∃ y, Q y ∧ W.cells? 0 (a.add (i * size)) size = some (f y) := by
   intro i hi
   have h1 := hel i hi
   rw [hc, zH (by omega), Option.bind_eq_some_iff] at h1
   obtain ⟨cs', h2, h3⟩ := h1
   obtain ⟨y, rfl, hq⟩ := hr _ _ _ h3 (hwe _ (ze _))
   exact ⟨y, hq, h2⟩
  obtain ⟨xs, hxl, hxs⟩ := list_of len key
  refine ⟨(some a, cap, xs), by simp [sv, hxl], ⟨by simp [hxl, hle], hm, fun h => (by cases h), fun hne => ?_, fun y hy => ?_, ?_⟩⟩
  ·have h0 : 0 < len := by
    rcases Nat.eq_zero_or_pos len with h0 | h0
    ·have := List.eq_nil_of_length_eq_zero (hxl.trans h0)
     subst this
     simp at hne
    ·exact h0
   have cell : ∀ i y j u, xs[i]? = some y → (f y)[j]? = some u → W.cell? (a.add (i * size + j)) = some u := by
    intro i y j u hy hu
    have h1 := (hxs i y hy).2
    have h2 := (World.cells?_some h1).2.2 j (by
     have := (List.getElem?_eq_some_iff.1 hu).1
     rw [hl y (hxs i y hy).1] at this
     exact this)
    rw [show (a.add (i * size)).add j = a.add (i * size + j) from by unfold Addr.add; split <;> split <;> simp_all [Nat.add_assoc]] at h2
    rw [h2]
    exact hu
   obtain ⟨y0, hy0⟩ : ∃ y, xs[0]? = some y := ⟨xs[0], zH (by omega)⟩
   obtain ⟨u0, hu0⟩ : ∃ u, (f y0)[0]? = some u := ⟨(f y0)[0]'(by rw [hl y0 (hxs 0 y0 hy0).1]; exact hsz), zH _⟩
   have c0 := cell 0 y0 0 u0 hy0 hu0
   obtain ⟨b, off, spot⟩ := a
   have hspot : spot = none := by simpa [Addr.add] using World.cell?_spot c0
   subst hspot
   have hbl : b < W.heap.size := by
    have := World.block_lt_of_cell? W _ c0
    simpa [Addr.add_lit] using this
   refine ⟨b, off, rfl, hbl, fun j u hu => ?_⟩
   obtain ⟨i, y, h1, h2, h3, h4⟩ := flatMap_get f size xs (fun a ha => by obtain ⟨i, hi⟩ := List.getElem?_of_mem ha; exact hl a (hxs i a hi).1) j u hu
   have := cell i y _ u h1 h4
   rw [Addr.add_lit] at this
   rw [show i * size + (j - i * size) = j by omega] at this
   exact this
  ·obtain ⟨i, hi⟩ := List.getElem?_of_mem hy
   exact (hxs i y hi).1
  ·have : elems.length + rest.length = cap := by omega
   rwa [this] at hw0
def ReadsF {H : Type} (enc : TypeId × Value → H) (P : Program) (W : World) (fs : List Field) (off size : Nat) {α : Type} (f : α → List Value) (Q : α → Prop) : Prop :=
 ∀ (fuel : Nat) (cs : List Value) (xs : List (DataW H × List MemPlace)), xs.length = fs.length → (∀ (i : Nat) (fd : Field), fs[i]? = some fd → DataW.trod enc P W 0 (fun _ => true) true fuel fd.type ((cs.drop fd.offset).take (P.cellsOf fd.type)) = xs[i]?) →
  (∀ n ∈ DataW.weightsEach P (fs.map (·.type)) (xs.map (·.1)), n ≤ reachBytes) → ∃ a, (cs.drop off).take size = f a ∧ Q a
theorem readsF_one {fd : Field} {t0 : TypeId} {α : Type} {f : α → List Value} {Q : α → Prop} {off size : Nat} (hr : Reads enc P W t0 f Q) (h0 : fd.type = t0) (h1 : fd.offset = off) (hc : P.cellsOf t0 = size) : ReadsF enc P W [fd] off size f Q := by
 subst h0 h1 hc
 intro fuel cs xs hl h hz
 obtain ⟨x, rfl⟩ : ∃ x, xs = [x] := by
  match xs, hl with
  | [x], _ => exact ⟨x, rfl⟩
 exact hr _ _ x (by simpa using h 0 fd rfl) (fun n hn => hz n (by simpa [DataW.weightsEach] using hn))
theorem readsF_cons {fd : Field} {fs : List Field} {t0 : TypeId} {α β : Type} {f : α → List Value} {Q : α → Prop} {g : β → List Value} {R : β → Prop} {off0 s0 off size total : Nat} (hr : Reads enc P W t0 f Q) (h0 : fd.type = t0) (h1 : fd.offset = off0) (hc : P.cellsOf t0 = s0) (ho : off = off0 + s0) (ht : total = s0 + size)
 (hF : ReadsF enc P W fs off size g R) : ReadsF enc P W (fd :: fs) off0 total (fun a : α × β => f a.1 ++ g a.2) (fun a => Q a.1 ∧ R a.2) := by
 subst h0 h1 hc ht
 intro fuel cs xs hl h hz
 obtain ⟨x, r, rfl⟩ : ∃ x r, xs = x :: r := by
  match xs, hl with
  | x :: r, _ => exact ⟨x, r, rfl⟩
 obtain ⟨a, h1, q1⟩ := hr _ _ x (by simpa using h 0 fd rfl) (fun n hn => hz n (by simp [DataW.weightsEach, hn]))
 obtain ⟨b, h2, q2⟩ := hF fuel cs r (by simpa using hl) (fun i fd' hi => by simpa using h (i + 1) fd' (by simpa using hi)) (fun n hn => hz n (by simp only [zW, DataW.weightsEach, zy]; exact .inr hn))
 refine ⟨(a, b), ?_, q1, q2⟩
 show _ = f a ++ g b
 rw [← h1, ← h2, ho, List.take_add, List.drop_drop]
theorem reads_struct {fs : Array Field} {α : Type} {f : α → List Value} {Q : α → Prop} (ht : P.underlying t = some (.struct fs)) (hF : ReadsF enc P W fs.toList 0 (P.cellsOf t) f Q) : Reads enc P W t f Q := by
 intro fuel cs x h hz
 obtain ⟨xs, n, _, rfl, hl, hlen, hf⟩ := DataW.trod_struct ht h
 obtain ⟨a, h1, q⟩ := hF n cs xs (by simpa using hlen) (fun i fd hi => hf i fd (by simpa using hi)) (fun m hm => hz m (by
  simp only [DataW.weights, ht]
  exact hm))
 refine ⟨a, ?_, q⟩
 rw [← h1, List.drop_zero, zD (by omega)]
variable {v : Value} {d : DataW H} {p : List MemPlace}
theorem open_cells {α : Type} {f : α → List Value} {Q : α → Prop} (hr : Reads enc P W t f Q) (h : DataW.Trod enc P W 0 (fun _ => true) true t v d p) (hz : ∀ n ∈ d.weights P t, n ≤ reachBytes) : ∃ a, v.cells.toList = f a ∧ Q a := by
 obtain ⟨fuel, hf⟩ := h
 exact hr fuel _ _ hf hz
theorem open_slice_arg {α : Type} {base : Nat} {Q : (Option Addr × Nat × List α) → Prop} (ht : P.underlying t = some (.slice e)) (hr : Reads enc P W t (fun s => [sv s]) Q) (hv : Value.okWide P W .any base t v) (h : DataW.Trod enc P W 0 (fun _ => true) true t v d p) (hz : ∀ n ∈ d.weights P t, n ≤ reachBytes) :
 ∃ s, v = sv s ∧ Q s := by
 obtain ⟨a0, len, cap, rfl⟩ := okWide_slice ht hv
 obtain ⟨s, hs, q⟩ := open_cells hr h hz
 exact ⟨s, by simpa [Value.cells] using hs, q⟩
end
end
section
open Go.RowKit
theorem cl_ret_bool {a b : Bool} (h : a = b) : Ending.returned (.bool a) = .returned (.bool b) := by rw [h]
theorem cl_ret_i64 {a b : Int} (h : a = b) : Ending.returned (.int .i64 a) = .returned (.int .i64 b) := by rw [h]
def civ (z : Int) : Value := .int .i64 z
def oddNode (n : Int) : Bool := decide (n < 1 ∨ 15 < n)
def oddNum (n : Int) : Bool := decide (n < 0 ∨ 1099511627776 < n)
theorem cl_enter_any {P : Program} {f : FuncId} {fn : Func} {c : Code} (hf : P.funcs[f]? = some fn) (hname : (fn.name == "runtime.NumGoroutine") = false) (hb : fn.body = some c) (args : Array Value) (w : World) :
 (callFunc f args).run P w = .ok (.enter f args) w := by
 have h1 : fn.name ≠ "runtime.NumGoroutine" := by simpa using hname
 simp [callFunc, hf, h1, hb]
theorem oddNode_any (n : Int) (w : World) : Calls Tryz.prog 13 #[.int .i64 n] w fun e w' => e = .returned (.bool (oddNode n)) ∧ w' = w := by
 by_cases h1 : n < 1
 ·have HE := zh (show oddNode n = true by unfold oddNode; simp; omega)
  go_in
  go_wp2
  go_ret
  exact ⟨cl_ret_bool HE.out.symm, rfl⟩
 ·by_cases h2 : 15 < n
  ·have HE := zh (show oddNode n = true by unfold oddNode; simp; omega)
   go_in
   go_wp2
   go_ret
   exact ⟨cl_ret_bool (by rw [HE.out] <;> simp [h2]), rfl⟩
  ·have HE := zh (show oddNode n = false by unfold oddNode; simp; omega)
   go_in
   go_wp2
   go_ret
   exact ⟨cl_ret_bool (by rw [HE.out] <;> (simp; omega)), rfl⟩
theorem oddNum_any (n : Int) (w : World) : Calls Tryz.prog 53 #[.int .i64 n] w fun e w' => e = .returned (.bool (oddNum n)) ∧ w' = w := by
 by_cases h1 : n < 0
 ·have HE := zh (show oddNum n = true by unfold oddNum; simp; omega)
  go_in
  go_wp2
  go_ret
  exact ⟨cl_ret_bool HE.out.symm, rfl⟩
 ·by_cases h2 : 1099511627776 < n
  ·have HE := zh (show oddNum n = true by unfold oddNum; simp; omega)
   go_in
   go_wp2
   go_ret
   exact ⟨cl_ret_bool (by rw [HE.out] <;> simp [h2]), rfl⟩
  ·have HE := zh (show oddNum n = false by unfold oddNum; simp; omega)
   go_in
   go_wp2
   go_ret
   exact ⟨cl_ret_bool (by rw [HE.out] <;> (simp; omega)), rfl⟩
structure Tests (f : Nat) (p : Int → Bool) : Prop where
 enter : ∀ args w, (callFunc f args).run Tryz.prog w = .ok (.enter f args) w
 ask : ∀ n w, Calls Tryz.prog f #[.int .i64 n] w fun e w' => e = .returned (.bool (p n)) ∧ w' = w
theorem oddNode_tests : Tests 13 oddNode := ⟨fun args w => cl_enter_any (P := Tryz.prog) (f := 13) Tryz.func13 (by kernel_rfl) rfl args w, oddNode_any⟩
theorem oddNum_tests : Tests 53 oddNum := ⟨fun args w => cl_enter_any (P := Tryz.prog) (f := 53) Tryz.func53 (by kernel_rfl) rfl args w, oddNum_any⟩
def idx (p : Int → Bool) (l : List Int) : Int := if l.any p = true then (l.findIdx p : Int) else -1
theorem idx_at {p : Int → Bool} {l : List Int} {i : Nat} (h : i < l.length) (no : ∀ j (hj : j < l.length), j < i → p l[j] = false) (yes : p l[i] = true) : idx p l = (i : Int) := by
 have e : l.findIdx p = i := by
  rw [List.findIdx_eq h]
  exact ⟨yes, fun j hj => no j (by omega) hj⟩
 unfold idx
 rw [zl (List.any_eq_true.2 ⟨_, ze h, yes⟩), e]
theorem idx_no {p : Int → Bool} {l : List Int} (no : ∀ j (hj : j < l.length), p l[j] = false) : idx p l = -1 := by
 unfold idx
 rw [zk]
 intro h
 obtain ⟨x, hx, hp⟩ := List.any_eq_true.1 h
 obtain ⟨j, hj, rfl⟩ := List.mem_iff_getElem.1 hx
 rw [no j hj] at hp
 cases hp
theorem idx_any (p : Int → Bool) (l : List Int) : (decide (0 ≤ idx p l)) = l.any p := by
 unfold idx
 split
 ·rename_i h; rw [h]; simp
 ·rename_i h
  rw [show l.any p = false by simpa using h]
  decide
theorem indexFunc_any (f : Nat) (p : Int → Bool) (hf : Tests f p) (w : World) (A : Option Addr) (cap : Nat) (l : List Int) (hA : Rd w w.heap.size A (l.map civ)) (hl : l.length ≤ 1000000) :
 Calls Tryz.prog 33 #[.slice A l.length cap, .func (.func f) #[] #[]] w fun e w' => e = .returned (.int .i64 (idx p l)) ∧ w' = w := by
 have HA := zh hA
 have HT := zh hf
 have hcf := hf.enter
 clear hA hf
 go_in
 go_wp2_with fail
 go_loop [8] (fun v8 => ∃ i : Nat, i ≤ l.length ∧ v8 = .int .i64 (i : Int) ∧ (∀ j (hj : j < l.length), j < i → p l[j] = false)) (fun v8 => l.length - (intOf v8).toNat)
 case atStart => exact ⟨0, by omega, rfl, fun _ _ h => by omega⟩
 case round =>
  obtain ⟨i, hi, rfl, hno⟩ := hrel
  have HNO := zh hno
  clear hno
  have hi0 : (0 : Int) ≤ (i : Int) := by omega
  by_cases hlt : i < l.length
  ·obtain ⟨b, o, rfl, _, hc⟩ := HA.out.at_ (k := i) (by simpa using hlt)
   rw [List.getElem_map] at hc
   unfold civ at hc
   have hlti : (i : Int) < (l.length : Int) := by omega
   have HASK := zh (HT.out.ask l[i] w)
   obtain ⟨b', hb'⟩ : ∃ b', p l[i] = b' := ⟨_, rfl⟩
   have HB := zh hb'
   rw [hb'] at HASK
   clear hb'
   generalize l[i] = x at hc HASK
   cases b' with
   | true =>
    go_wp2_with fail
    refine HASK.out.mono ?_
    rintro e w' ⟨rfl, rfl⟩
    go_wp2_with fail
    go_ret
    exact ⟨cl_ret_i64 (idx_at hlt HNO.out HB.out).symm, rfl⟩
   | false =>
    go_wp2_with fail
    refine HASK.out.mono ?_
    rintro e w' ⟨rfl, hw'⟩
    rw [hw']
    clear hw' w'
    go_wp2_with fail
    go_round
    case rel =>
     refine ⟨i + 1, by omega, by go_num, fun j hj hji => ?_⟩
     rcases zL j i with h | h
     ·exact HNO.out j hj h
     ·obtain rfl : j = i := by omega
      exact HB.out
    case measure => simp [intOf]; omega
  ·have hlti : ¬ (i : Int) < (l.length : Int) := by omega
   go_wp2_with fail
   go_ret
   exact ⟨cl_ret_i64 (idx_no (fun j hj => HNO.out j hj (by omega))).symm, rfl⟩
theorem jM (f : Nat) (p : Int → Bool) (hf : Tests f p) (w : World) (A : Option Addr) (cap : Nat) (l : List Int) (hA : Rd w w.heap.size A (l.map civ)) (hl : l.length ≤ 1000000) :
 Calls Tryz.prog 15 #[.slice A l.length cap, .func (.func f) #[] #[]] w fun e w' => e = .returned (.bool (l.any p)) ∧ w' = w := by
 have HI := zh (indexFunc_any f p hf w A cap l hA hl)
 have HE := zh (idx_any p l)
 clear hA hf
 go_in
 go_wp2_with fail
 refine HI.out.mono ?_
 rintro e w' ⟨rfl, rfl⟩
 go_wp2_with fail
 go_ret
 exact ⟨cl_ret_bool HE.out, rfl⟩
theorem containsNone_any (f : Value) (w : World) (cap : Nat) (A : Option Addr) :
 Calls Tryz.prog 16 #[.slice A 0 cap, f] w fun e w' => e = .returned (.bool false) ∧ w' = w := by
 have HI : Hid (∀ w, Calls Tryz.prog 34 #[.slice A 0 cap, f] w fun e w' => e = .returned (.int .i64 (-1)) ∧ w' = w) := zh fun w => by
  go_in
  go_wp2_with fail
  go_loop [8] (fun v8 => v8 = .int .i64 0) (fun v8 => 0)
  case atStart => rfl
  case round =>
   subst hrel
   go_wp2_with fail
   go_ret
   exact ⟨rfl, rfl⟩
 go_in
 go_wp2_with fail
 refine (HI.out w).mono ?_
 rintro e w' ⟨rfl, rfl⟩
 go_wp2_with fail
 go_ret
 exact ⟨rfl, rfl⟩
end
end Go.Proofs.YtnmokpbomeamfaaGreat

/- Net15, Net16, Net17, Net18, Net20. (Put together by merge28.py.) -/
import Derived.Test.YtlceembcehokoaaNet6
import Derived.WideKeyEntry
import Derived.Maps.Views
import Derived.Deep.DrawnRows
import Derived.Laws.ResultCell
import Derived.Laws.BitsAllLaws
import Derived.IntWalk
namespace Go.Proofs.Ytlceembcehokoaa
open Go.RowKit Go.Maps
set_option maxRecDepth 100000

theorem node_yes (n : Int) (h1 : 1 ≤ n) (h2 : n ≤ 15) (w : World) : Calls Try.prog 67 #[.int .i64 n] w fun e w' => e = .returned (.bool true) ∧ w' = w := by
  have := node_any n w
  simpa [h1, h2] using this
theorem node_no (n : Int) (h : ¬ (1 ≤ n ∧ n ≤ 15)) (w : World) : Calls Try.prog 67 #[.int .i64 n] w fun e w' => e = .returned (.bool false) ∧ w' = w := by
  have := node_any n w
  rw [show (decide (1 ≤ n) && decide (n ≤ 15)) = false by
    rw [Bool.and_eq_false_iff]
    by_cases h1 : 1 ≤ n
    · right; simp; omega
    · left; simp; omega] at this
  exact this
/-! ### The map of cuts -/
abbrev keyL (x y : Int) : Lit := .string (keyBytes [.int .i64 x, .int .i64 y])
theorem key_lit (x y : Int) : WideAt.IsKeyLit (keyL x y) := by simp [WideAt.IsKeyLit]
theorem keyL_inj {x y x' y' : Int} (wx : (Lit.int .i64 x).wf = true) (wy : (Lit.int .i64 y).wf = true) (wx' : (Lit.int .i64 x').wf = true) (wy' : (Lit.int .i64 y').wf = true) (h : keyL x y = keyL x' y') : x = x' ∧ y = y' := by
  have h1 := WideMaps.keyOf_pair (a := x) (b := y) pair_key Try.underlying3 types_size wx wy
  have h2 := WideMaps.keyOf_pair (a := x') (b := y') pair_key Try.underlying3 types_size wx' wy'
  have h3 : keyBytes [.int .i64 x, .int .i64 y] = keyBytes [.int .i64 x', .int .i64 y'] := by injection h
  rw [h3] at h1
  have := pair_key.law.inj h1 h2
  simpa using this
abbrev CutsAt (w : World) (m c : Nat) (D : DataW Unit) : Prop := w.ownsMap Try.prog 98 (plainElem (H := Unit) Try.prog 4) m c D
theorem om_entry {w : World} {b n : Nat} {D : DataW Unit} (h : CutsAt w b n D) (hn : n < maxLen) (x y : Int) (wx : (Lit.int .i64 x).wf = true) (wy : (Lit.int .i64 y).wf = true) (v : Bool) :
    ∃ v0 st w1, (Instr.mapEntry 94 (.map (some b)) (.agg #[.int .i64 x, .int .i64 y])).run Try.prog w = .ok (.tuple #[v0, .int .i64 st]) w1 ∧ Frm (fun k => k = b) w w1 ∧
      ∃ w3, (Instr.entryStore 94 (.map (some b)) (.int .i64 st) (.bool v)).run Try.prog w1 = .ok () w3 ∧ CutsAt w3 b (n + 1) (D.put (keyL x y) (.lit (.bool v))) ∧ Frm (fun k => k = b) w w3 := by
  have hkey := WideMaps.keyOf_pair (a := x) (b := y) pair_key Try.underlying3 types_size wx wy
  obtain ⟨w', hrun, hown, _⟩ := h.update (Maps.Keyed.of_law pair_key.law) Try.underlying94 hn hkey (plainElem_bool (H := Unit) Try.underlying4 v)
  obtain ⟨es, clock, hb, F, hs, hD⟩ := h
  obtain ⟨v0, st, es1, clock1, hrun1, _, hstore⟩ := WideElems.entry_then_store pair_key.law Try.underlying94 zero_bool hb F hkey
  have hsb := ChangeMaps.heap_setBlock_same hb (.map es1 clock1)
  obtain ⟨es', clock', hst, hup⟩ := hstore _ (.bool v) hsb
  rw [hrun] at hup
  injection hup with _ hw'
  subst hw'
  have F1 : Frm (fun k => k = b) w (ChangeMaps.setBlock w b (.map es1 clock1)) := ⟨rfl, rfl, rfl, by simp [ChangeMaps.setBlock], fun k _ hk => ChangeMaps.heap_setBlock_other hb _ hk⟩
  refine ⟨v0, st, _, hrun1, F1, _, hst, OM.same hown ?_, F1.trans ⟨rfl, rfl, rfl, by simp [ChangeMaps.setBlock], fun k _ hk => ChangeMaps.heap_setBlock_other hsb _ hk⟩⟩
  rw [ChangeMaps.heap_setBlock_same hsb, ChangeMaps.heap_setBlock_same hb]
/-- which pairs are cut, in the map -/
def CutsAre (D : DataW Unit) (C : Int → Int → Bool) : Prop := ∀ x y : Int, 1 ≤ x → x ≤ 15 → 1 ≤ y → y ≤ 15 → D.atKey (keyL x y) (.lit (.bool false)) = .lit (.bool (C x y))
theorem cutsAre_new : CutsAre (.map []) (fun _ _ => false) := fun _ _ _ _ _ _ => rfl
def setC (C : Int → Int → Bool) (x y : Int) (v : Bool) : Int → Int → Bool := fun a b => if (a = x ∧ b = y) ∨ (a = y ∧ b = x) then v else C a b
theorem wf_small {x : Int} (h1 : 1 ≤ x) (h2 : x ≤ 15) : (Lit.int .i64 x).wf = true := by
  have : x = 1 ∨ x = 2 ∨ x = 3 ∨ x = 4 ∨ x = 5 ∨ x = 6 ∨ x = 7 ∨ x = 8 ∨ x = 9 ∨ x = 10 ∨ x = 11 ∨ x = 12 ∨ x = 13 ∨ x = 14 ∨ x = 15 := by omega
  rcases this with rfl | rfl | rfl | rfl | rfl | rfl | rfl | rfl | rfl | rfl | rfl | rfl | rfl | rfl | rfl <;> decide
theorem CutsAre.set {es : List (Lit × DataW Unit)} {C : Int → Int → Bool} {x y : Int} (h : CutsAre (.map es) C) (x1 : 1 ≤ x) (x2 : x ≤ 15) (y1 : 1 ≤ y) (y2 : y ≤ 15) (v : Bool) :
    CutsAre (((DataW.map es).put (keyL x y) (.lit (.bool v))).put (keyL y x) (.lit (.bool v))) (setC C x y v) := by
  intro a b a1 a2 b1 b2
  have wx := wf_small x1 x2
  have wy := wf_small y1 y2
  have wa := wf_small a1 a2
  have wb := wf_small b1 b2
  unfold setC
  by_cases e1 : a = y ∧ b = x
  · obtain ⟨rfl, rfl⟩ := e1
    rw [if_pos (.inr ⟨rfl, rfl⟩)]
    exact atKey_put_same ⟨_, rfl⟩ (key_lit _ _) _ _
  · rw [atKey_put_other (fun k => e1 (keyL_inj wa wb wy wx k))]
    by_cases e2 : a = x ∧ b = y
    · obtain ⟨rfl, rfl⟩ := e2
      rw [if_pos (.inl ⟨rfl, rfl⟩)]
      exact atKey_put_same ⟨_, rfl⟩ (key_lit _ _) _ _
    · rw [atKey_put_other (fun k => e2 (keyL_inj wa wb wx wy k)), if_neg (fun h => h.elim e2 e1)]
      exact h a b a1 a2 b1 b2
/-! ### The packets -/
structure Ab where
  f : Int
  t : Int
  bs : List UInt8
  bad : Bool
structure Pq where
  a : Ab
  v : Value
def qcells (p : Pq) : List Value := [.int .i64 p.a.f, .int .i64 p.a.t, p.v, .bool p.a.bad]
theorem qcells_len (l : List Pq) : (l.flatMap qcells).length = l.length * 4 := flatMap_len l (fun _ _ => rfl)
theorem qcells_get : ∀ (l : List Pq) (i : Nat) (h : i < l.length) (j : Nat), j < 4 → (l.flatMap qcells)[i * 4 + j]? = (qcells l[i])[j]?
  | x :: l, 0, _, j, hj => by
    rw [List.flatMap_cons, Nat.zero_mul, Nat.zero_add, List.getElem?_append_left (by exact hj)]
    rfl
  | x :: l, i + 1, h, j, hj => by
    rw [List.flatMap_cons, List.getElem?_append_right (by show 4 ≤ _; omega), show (qcells x).length = 4 from rfl, show (i + 1) * 4 + j - 4 = i * 4 + j by omega]
    exact qcells_get l i (by simpa using h) j hj
theorem qcells_take (l : List Pq) (k : Nat) : (l.flatMap qcells).take (k * 4) = (l.take k).flatMap qcells := by
  induction k generalizing l with
  | zero => simp
  | succ k ih =>
    cases l with
    | nil => simp
    | cons x r => rw [List.flatMap_cons, List.take_succ_cons, List.flatMap_cons, List.take_append, show (qcells x).length = 4 from rfl, show (k + 1) * 4 - 4 = k * 4 by omega, ih, List.take_of_length_le (by show 4 ≤ _; omega)]
theorem qcells_drop (l : List Pq) (k : Nat) : (l.flatMap qcells).drop (k * 4) = (l.drop k).flatMap qcells := by
  induction k generalizing l with
  | zero => simp
  | succ k ih =>
    cases l with
    | nil => simp
    | cons x r => rw [List.flatMap_cons, List.drop_succ_cons, List.drop_append, show (qcells x).length = 4 from rfl, show (k + 1) * 4 - 4 = k * 4 by omega, ih, List.drop_of_length_le (by show 4 ≤ _; omega), List.nil_append]
def Sep (u v : Value) : Prop := ∀ k, u.ownBlock = some k → v.ownBlock ≠ some k
/-- the packets of a net of which the blocks F are -/
structure IsQ (w0 : World) (F : Nat → Prop) (b m : Nat) (v : Value) (q : List Pq) (w : World) : Prop where
  blk : Blk w b 97 #[v, .map (some m)]
  sl : Sl w w0.heap.size 101 4 v q.length (q.flatMap qcells)
  own : ∀ p ∈ q, Sl w w0.heap.size 5 1 p.v p.a.bs.length (p.a.bs.map bv)
  sep : q.Pairwise (fun x y => Sep x.v y.v)
  fv : ∀ k, v.ownBlock = some k → F k
  fo : ∀ p ∈ q, ∀ k, p.v.ownBlock = some k → F k
  fb : F b
  low : ∀ k, F k → w0.heap.size ≤ k ∧ k < w.heap.size
  frm : Fresh w0 w
theorem IsQ.more {w0 w w' : World} {F S : Nat → Prop} {b m : Nat} {v : Value} {q : List Pq} (h : IsQ w0 F b m v q w) (K : Frm S w w') (hn : ∀ k, F k → ¬ S k) (hS : ∀ k, S k → w0.heap.size ≤ k) : IsQ w0 F b m v q w' :=
  ⟨h.blk.frm K (hn _ h.fb), h.sl.frm K (fun k hk => hn _ (h.fv k hk)), fun p hp => (h.own p hp).frm K (fun k hk => hn _ (h.fo p hp k hk)), h.sep, h.fv, h.fo, h.fb, fun k hk => ⟨(h.low k hk).1, Nat.lt_of_lt_of_le (h.low k hk).2 K.size⟩, h.frm.trans' K (fun k hk e => by have := hS k e; omega)⟩
theorem IsQ.fresh {w0 w w' : World} {F : Nat → Prop} {b m : Nat} {v : Value} {q : List Pq} (h : IsQ w0 F b m v q w) (K : Fresh w w') : IsQ w0 F b m v q w' := h.more K (fun _ _ f => f) (fun _ f => f.elim)
theorem IsQ.one {w0 w : World} {F : Nat → Prop} {b m : Nat} {v : Value} {q : List Pq} (h : IsQ w0 F b m v q w) : ∀ u ∈ q.flatMap qcells, u.oneCell' = true := by
  intro u hu
  obtain ⟨p, hp, hu⟩ := List.mem_flatMap.1 hu
  obtain ⟨A, c, e, _⟩ := (h.own p hp).shape
  unfold qcells at hu
  rw [e] at hu
  simp only [List.mem_cons, List.not_mem_nil, or_false] at hu
  rcases hu with rfl | rfl | rfl | rfl <;> rfl
/-- the one at a place, where it lies -/
theorem IsQ.at_ {w0 w : World} {F : Nat → Prop} {b m : Nat} {v : Value} {q : List Pq} (h : IsQ w0 F b m v q w) {k : Nat} (hk : k < q.length) : ∃ g o cap, v = .slice (some ⟨g, o, none⟩) q.length cap ∧ q.length ≤ cap ∧ cap ≤ maxLen ∧
    w.cell? ⟨g, o + k * 4, none⟩ = some (.int .i64 q[k].a.f) ∧ w.cell? ⟨g, o + k * 4 + 1, none⟩ = some (.int .i64 q[k].a.t) ∧ w.cell? ⟨g, o + k * 4 + 2, none⟩ = some q[k].v ∧ w.cell? ⟨g, o + k * 4 + 3, none⟩ = some (.bool q[k].a.bad) := by
  obtain ⟨g, o, cap, rfl, _, _, h1, h2⟩ := h.sl.head (by omega)
  have hl := qcells_len q
  have key : ∀ (j : Nat) (u : Value), j < 4 → (qcells q[k])[j]? = some u → w.cell? ⟨g, o + k * 4 + j, none⟩ = some u := fun j u hj hu => by
    have := h.sl.cell (j := k * 4 + j) (by omega)
    rw [Nat.add_assoc, this, ← hu, ← qcells_get q k hk j hj, List.getElem?_eq_getElem]
  exact ⟨g, o, cap, rfl, h1, h2, key 0 _ (by omega) rfl, key 1 _ (by omega) rfl, key 2 _ (by omega) rfl, key 3 _ (by omega) rfl⟩
/-- the blocks that were there, and those that came -/
def grow (F : Nat → Prop) (w w' : World) (k : Nat) : Prop := F k ∨ (w.heap.size ≤ k ∧ k < w'.heap.size)
/-- the list is another one now -/
theorem IsQ.put {w0 w w4 w5 : World} {F : Nat → Prop} {b m : Nat} {v v' : Value} {q q' : List Pq} (h : IsQ w0 F b m v q w) (K4 : Fresh w w4) (hf : Frm (fun k => v.ownBlock = some k) w4 w5)
    (hs5 : Sl w5 w0.heap.size 101 4 v' q'.length (q'.flatMap qcells)) (hv' : ∀ k, v'.ownBlock = some k → F k ∨ w.heap.size ≤ k)
    (ho : ∀ p ∈ q', Sl w4 w0.heap.size 5 1 p.v p.a.bs.length (p.a.bs.map bv) ∧ ∀ k, p.v.ownBlock = some k → F k ∨ w.heap.size ≤ k) (hsep : q'.Pairwise (fun x y => Sep x.v y.v)) :
    IsQ w0 (grow F w w5) b m v' q' (w5.setCell ⟨b, 0, none⟩ v') ∧ w5.cell? ⟨b, 0, none⟩ = some v ∧ w5.frozen? ⟨b, 0, none⟩ = false ∧ Frm (fun k => k = b ∨ v.ownBlock = some k) w (w5.setCell ⟨b, 0, none⟩ v') := by
  have h4 := h.fresh K4
  have hb5 : Blk w5 b 97 #[v, .map (some m)] := h4.blk.frm hf (fun e => h4.sl.apart h4.blk (by decide) e)
  have F2 : Frm (fun k => k = b) w5 (w5.setCell ⟨b, 0, none⟩ v') := (Frm.refl (fun k => k = b) w5).setCell (p := ⟨b, 0, none⟩) (fun _ => rfl) v'
  have hb6 := hb5.set 0 v'
  have ho5 : ∀ p ∈ q', Sl w5 w0.heap.size 5 1 p.v p.a.bs.length (p.a.bs.map bv) := fun p hp => (ho p hp).1.frm hf (Rc.sl_apart (ho p hp).1 h4.sl (by decide))
  have hFF : Frm (fun k => k = b ∨ v.ownBlock = some k) w (w5.setCell ⟨b, 0, none⟩ v') := ((K4.mono (fun _ _ f => f.elim)).trans' hf (fun k _ e => .inr e)).trans' F2 (fun k _ e => .inl e)
  have hsz : (w5.setCell ⟨b, 0, none⟩ v').heap.size = w5.heap.size := by simp [World.setCell]
  refine ⟨⟨by simpa using hb6, hs5.frm F2 (fun k hk e => by subst e; exact hs5.apart hb5 (by decide) hk), fun p hp => (ho5 p hp).frm F2 (fun k hk e => by subst e; exact (ho5 p hp).apart hb5 (by decide) hk), hsep, ?_, ?_, .inl h.fb, ?_, ?_⟩, hb5.cell 0, hb5.frozen 0, hFF⟩
  · intro k hk
    rcases hv' k hk with e | e
    · exact .inl e
    · exact .inr ⟨e, (hs5.lt k hk).2⟩
  · intro p hp k hk
    rcases (ho p hp).2 k hk with e | e
    · exact .inl e
    · exact .inr ⟨e, ((ho5 p hp).lt k hk).2⟩
  · intro k hk
    rw [hsz]
    rcases hk with e | ⟨e1, e2⟩
    · have := h.low k e
      have := hFF.size
      rw [hsz] at this
      omega
    · have := h.frm.size
      omega
  · exact h.frm.trans' hFF (fun k hk e => by
      rcases e with rfl | e
      · have := (h.low _ h.fb).1; omega
      · have := (h.low _ (h.fv k e)).1; omega)
/-- the map is as it was -/
structure IsM (F : Nat → Prop) (m c : Nat) (C : Int → Int → Bool) (w : World) : Prop where
  map : ∃ es, CutsAt w m c (.map es) ∧ CutsAre (.map es) C
  fm : F m
theorem IsM.more {F G S : Nat → Prop} {m c : Nat} {C : Int → Int → Bool} {w w' : World} (h : IsM F m c C w) (K : Frm S w w') (hn : ¬ S m) (hG : G m) : IsM G m c C w' := by
  obtain ⟨es, h1, h2⟩ := h.map
  exact ⟨⟨es, OM.frm h1 K hn, h2⟩, hG⟩
theorem IsM.lt {F : Nat → Prop} {m c : Nat} {C : Int → Int → Bool} {w : World} (h : IsM F m c C w) : m < w.heap.size := by
  obtain ⟨es, h1, h2⟩ := h.map
  exact h1.lt
/-- the blocks that an operation on the packets may write -/
def Only (b : Nat) (v : Value) (q : List Pq) (k : Nat) : Prop := k = b ∨ v.ownBlock = some k ∨ ∃ p ∈ q, p.v.ownBlock = some k
theorem Only.not_map {w0 w : World} {F G : Nat → Prop} {b m c : Nat} {C : Int → Int → Bool} {v : Value} {q : List Pq} (h : IsQ w0 F b m v q w) (hm : IsM G m c C w) : ¬ Only b v q m := by
  obtain ⟨es, h1, _⟩ := hm.map
  rintro (e | e | ⟨p, hp, e⟩)
  · exact OM.not_cells h1 h.blk e
  · exact OM.not_sl h1 h.sl e
  · exact OM.not_sl h1 (h.own p hp) e
theorem Only.sub {w0 w : World} {F : Nat → Prop} {b m : Nat} {v : Value} {q : List Pq} (h : IsQ w0 F b m v q w) (k : Nat) (hk : Only b v q k) : F k := by
  rcases hk with rfl | e | ⟨p, hp, e⟩
  · exact h.fb
  · exact h.fv k e
  · exact h.fo p hp k e
/-- a net, whole -/
def IsS (w0 : World) (F : Nat → Prop) (b : Nat) (l : List Ab) (c : Nat) (C : Int → Int → Bool) (w : World) : Prop :=
  ∃ m v q, q.map Pq.a = l ∧ IsQ w0 F b m v q w ∧ IsM F m c C w
theorem IsS.more {w0 w w' : World} {F S : Nat → Prop} {b c : Nat} {l : List Ab} {C : Int → Int → Bool} (h : IsS w0 F b l c C w) (K : Frm S w w') (hn : ∀ k, F k → ¬ S k) (hS : ∀ k, S k → w0.heap.size ≤ k) : IsS w0 F b l c C w' := by
  obtain ⟨m, v, q, h1, h2, h3⟩ := h
  exact ⟨m, v, q, h1, h2.more K hn hS, h3.more K (hn _ h3.fm) h3.fm⟩
theorem IsS.fresh {w0 w w' : World} {F : Nat → Prop} {b c : Nat} {l : List Ab} {C : Int → Int → Bool} (h : IsS w0 F b l c C w) (K : Fresh w w') : IsS w0 F b l c C w' := h.more K (fun _ _ f => f) (fun _ f => f.elim)
/-- what an operation leaves -/
def StepS (w0 : World) (F : Nat → Prop) (b : Nat) (l : List Ab) (c : Nat) (C : Int → Int → Bool) (w w' : World) : Prop :=
  ∃ F', IsS w0 F' b l c C w' ∧ Frm F w w' ∧ ∀ k, F' k → F k ∨ w.heap.size ≤ k
theorem StepS.still {w0 w w' : World} {F : Nat → Prop} {b c : Nat} {l : List Ab} {C : Int → Int → Bool} (h : IsS w0 F b l c C w) (K : Fresh w w') : StepS w0 F b l c C w w' :=
  ⟨F, h.fresh K, K.frm, fun _ e => .inl e⟩
theorem StepS.put {w0 w w' : World} {F : Nat → Prop} {b m c : Nat} {C : Int → Int → Bool} {v v' : Value} {q q' : List Pq} {w5 : World} (h : IsQ w0 F b m v q w) (hm : IsM F m c C w) (h' : IsQ w0 (grow F w w5) b m v' q' w') (K : Frm (Only b v q) w w') : StepS w0 F b (q'.map Pq.a) c C w w' :=
  ⟨grow F w w5, ⟨m, v', q', rfl, h', hm.more K (Only.not_map h hm) (.inl hm.fm)⟩, K.mono (fun k _ e => Only.sub h k e), fun k e => e.imp (fun x => x) (fun x => x.1)⟩
end Go.Proofs.Ytlceembcehokoaa
namespace Go.Proofs.Ytlceembcehokoaa
open Go.RowKit
set_option maxRecDepth 100000

section
attribute [local go_sem ↓] Go.wp_at_zero Go.wp_at_succ
theorem zero_pk (w : World) : (zeroValue 101).run Try.prog w = .ok (.agg #[.int .i64 0, .int .i64 0, .slice none 0 0, .bool false]) w := by kernel_rfl
theorem zero_pk1 : ∀ u ∈ (Value.agg #[.int .i64 0, .int .i64 0, .slice none 0 0, .bool false]).cells.toList, u.oneCell' = true := by
  intro u hu
  have hu : u ∈ [Value.int .i64 0, Value.int .i64 0, Value.slice none 0 0, Value.bool false] := hu
  simp only [List.mem_cons, List.not_mem_nil, or_false] at hu
  rcases hu with rfl | rfl | rfl | rfl <;> rfl
def DelPost (w : World) (B : Nat) (v : Value) (n : Nat) (xs : List Value) (e : Ending) (w' : World) : Prop :=
  ∃ v', e = .returned v' ∧ Sl w' B 101 4 v' n xs ∧ Frm (fun k => v.ownBlock = some k) w w' ∧ v'.ownBlock = v.ownBlock
theorem del_cells {cur cur2 cur3 : Array Value} {o i m z : Nat} {xs : List Value} (hx : xs.length = (i + 1 + m) * 4) (hc : ∀ (j : Nat) (u : Value), xs[j]? = some u → cur[o + j]? = some u)
    (h2 : ∀ (j : Nat), j < o + i * 4 ∨ z ≤ j → cur2[j]? = cur[j]?) (k2 : ∀ (j : Nat) (u : Value), (xs.drop ((i + 1) * 4))[j]? = some u → cur2[o + i * 4 + j]? = some u)
    {z3 : Nat} (h3 : ∀ (j : Nat), j < o + (i + m) * 4 ∨ z3 ≤ j → cur3[j]? = cur2[j]?) :
    ∀ (j : Nat) (u : Value), (xs.take (i * 4) ++ xs.drop ((i + 1) * 4))[j]? = some u → cur3[o + j]? = some u := by
  intro j u hu
  have htl : (xs.take (i * 4)).length = i * 4 := by rw [List.length_take]; omega
  have hj0 := (List.getElem?_eq_some_iff.1 hu).1
  rw [List.length_append, htl, List.length_drop] at hj0
  rw [h3 _ (.inl (by omega))]
  rw [List.getElem?_append] at hu
  split at hu
  · rename_i hj
    rw [htl] at hj
    rw [List.getElem?_take, if_pos hj] at hu
    rw [h2 _ (.inl (by omega))]
    exact hc j u hu
  · rename_i hj
    rw [htl] at hj hu
    have := k2 _ u hu
    rw [show o + i * 4 + (j - i * 4) = o + j by omega] at this
    exact this
set_option maxHeartbeats 4000000 in
set_option maxRecDepth 100000 in
theorem delete_any (w : World) (B : Nat) (v : Value) (n : Nat) (xs : List Value) (hs : Sl w B 101 4 v n xs) (hn : n ≤ 1000) (i : Nat) (hin : i < n) (h1s : ∀ u ∈ xs, u.oneCell' = true) :
    Calls Try.prog 72 #[v, .int .i64 (i : Int), .int .i64 ((i : Int) + 1)] w fun e w' => DelPost w B v (n - 1) (xs.take (i * 4) ++ xs.drop ((i + 1) * 4)) e w' := by
  obtain ⟨i0, hi, hz0, hz1, hz2⟩ := info_parts info_pk
  obtain ⟨g, o, cap, rfl, _, _, hnc, hcm⟩ := hs.head (by omega)
  obtain ⟨_, hBg, _, _, cur, hblk, hsz, hc⟩ := hs.open'
  have hxsl := hs.1
  unfold maxLen at hcm
  obtain ⟨m, hm⟩ : ∃ m, n - (i + 1) = m := ⟨_, rfl⟩
  obtain ⟨n', hn'⟩ : ∃ n', n - 1 = n' := ⟨_, rfl⟩
  rw [hn']
  have him : i + m = n' := by omega
  have hxs2 : xs.length = (i + 1 + m) * 4 := by rw [hxsl, show i + 1 + m = n by omega]
  have HX2 := Lib.hid hxs2
  have HC := Lib.hid hc
  have HM := Lib.hid hm
  have HIM := Lib.hid him
  have hdl : (xs.drop ((i + 1) * 4)).length = m * 4 := by rw [List.length_drop, hxs2, Nat.add_mul]; omega
  have H1 := Lib.hid (fun u (hu : u ∈ xs.drop ((i + 1) * 4)) => h1s u (List.mem_of_mem_drop hu))
  have hblk' : Blk w.drew g 101 cur := hblk
  have HB := Lib.hid hblk'
  have HDL := Lib.hid hdl
  have hfit : o + i * 4 + m * 4 ≤ cur.size := by omega
  have q1 : ¬ ((i : Int) = (i : Int) + 1) := by omega
  have q2 : (0 : Int) ≤ (i : Int) := by omega
  have q3 : (i : Int) + 1 ≤ (n : Int) := by omega
  have q4 : (i : Int) ≤ (n : Int) := by omega
  have q5 : (i : Int) ≤ (i : Int) + 1 := by omega
  have q6 : (n : Int) ≤ (cap : Int) := by omega
  have w2' : ((i : Int) + 1).toNat = i + 1 := by omega
  have w3 : (0 : Int) ≤ (i : Int) + 1 := by omega
  have q7 : (n' : Int) ≤ (n : Int) := by omega
  have q8 : n - n' = 1 := by omega
  have q9 : ¬ (cap = n') := by omega
  have q10 : (0 : Int) ≤ (n' : Int) := by omega
  have q11 : (n' : Int) ≤ (cap : Int) := by omega
  have q12 : ¬ (n = i) := by omega
  have q13 : i ≤ cap := by omega
  have q14 : n ≤ cap := by omega
  have q15 : n' ≤ n := by omega
  have q16 : n' ≤ cap := by omega
  by_cases hci : cap = i + 1
  · have hm0 : m = 0 := by omega
    have hsrc : ∀ j v, (xs.drop ((i + 1) * 4))[j]? = some v → w.drew.cell? ((⟨g, o, none⟩ : Addr).add j) = some v := fun j v hj => by
      have := (List.getElem?_eq_some_iff.1 hj).1
      omega
    have HM0 := Lib.hid hm0
    clear hm0
    have HSRC := Lib.hid hsrc
    clear hsrc hdl hc hblk hblk' hxsl hxs2 hn' him hs h1s
    have hnm : n - cap = m := by omega
    have hci' : i + 1 = cap := by omega
    have HCI := Lib.hid hci'
    clear hm hci
    go_enter Try.func72, Try.ntmps72
    go_wp2_with fail
    go_region_law (refine step_append_in (P := Try.prog) w.drew rfl (.tmp 22) (.tmp 25) _ rfl 101 i0 4 Try.underlying95 hi hz1 g o i cap (by simp [Act.eval, Act.put]) ⟨g, o, none⟩ m 0 (by simp [Act.eval, Act.put]) (xs.drop ((i + 1) * 4)) HDL.out HSRC.out H1.out (by omega) n' HIM.out 101 cur HB.out (by rw [HDL.out]; exact hfit) ?_; intro w2 cur2 hb2 hz2' ho2 hi2 hf2)
    have HB2 := Lib.hid hb2
    have HO2 := Lib.hid ho2
    have HI2 := Lib.hid hi2
    have HF2 := Lib.hid hf2
    have hfit2 : o + n' * 4 + 1 * 4 ≤ cur2.size := by omega
    have hcap2 : o + cap * 4 ≤ cur2.size := by omega
    clear hb2 ho2 hi2 hf2 hz2'
    go_wp2_with (with_reducible refine wpList_clear_blk (P := Try.prog) w2 rfl (.tmp 31) _ rfl 101 4 _ Try.underlying95 zero_pk rfl zero_pk1 g (o + n' * 4) 1 (cap - n') (by simp [Act.eval, Act.put]) (by omega) 101 cur2 HB2.out hfit2 ?_; intro w3 cur3 hb3 hz3 ho3 hf3)
    have hcells := del_cells (i := i) (m := m) HX2.out HC.out HO2.out HI2.out (cur3 := cur3) (z3 := o + n' * 4 + 1 * 4) (by rw [HIM.out]; exact ho3)
    have HSL : Hid (Sl w3 B 101 4 (.slice (some ⟨g, o, none⟩) n' cap) n' (xs.take (i * 4) ++ xs.drop ((i + 1) * 4))) := Lib.hid (Sl.mk' hBg hb3 (by
      have h1 := HX2.out
      have h2 := HIM.out
      rw [List.length_append, List.length_take, List.length_drop]
      omega) (by omega) (by unfold maxLen; omega) (by omega) hcells)
    have HFF : Hid (Frm (fun k => (Value.slice (some ⟨g, o, none⟩) n cap).ownBlock = some k) w w3) := Lib.hid ((((Frm.refl _ w).drew).trans HF2.out).trans hf3 |>.mono (fun k _ h => by subst h; rfl))
    clear hcells hb3 hz3 ho3 hf3
    go_wp2_with fail
    go_ret
    exact ⟨_, rfl, HSL.out, HFF.out, rfl⟩
  · have hsrc : ∀ j v, (xs.drop ((i + 1) * 4))[j]? = some v → w.drew.cell? ((⟨g, o + (i + 1) * 4, none⟩ : Addr).add j) = some v := fun j v hj => by
      rw [Addr.add_lit, show w.drew.cell? ⟨g, o + (i + 1) * 4 + j, none⟩ = w.cell? ⟨g, o + (i + 1) * 4 + j, none⟩ from rfl, hblk.cell, Nat.add_assoc]
      exact hc _ _ (by rwa [List.getElem?_drop] at hj)
    have HSRC := Lib.hid hsrc
    clear hsrc hdl hc hblk hblk' hxsl hxs2 hn' him hs h1s
    go_enter Try.func72, Try.ntmps72
    go_wp2_with fail
    go_region_law (refine step_append_in (P := Try.prog) w.drew rfl (.tmp 22) (.tmp 25) _ rfl 101 i0 4 Try.underlying95 hi hz1 g o i cap (by simp [Act.eval, Act.put]) ⟨g, o + (i + 1) * 4, none⟩ m (cap - (i + 1)) (by simp [Act.eval, Act.put]) (xs.drop ((i + 1) * 4)) HDL.out HSRC.out H1.out (by omega) n' HIM.out 101 cur HB.out (by rw [HDL.out]; exact hfit) ?_; intro w2 cur2 hb2 hz2' ho2 hi2 hf2)
    have HB2 := Lib.hid hb2
    have HO2 := Lib.hid ho2
    have HI2 := Lib.hid hi2
    have HF2 := Lib.hid hf2
    have hfit2 : o + n' * 4 + 1 * 4 ≤ cur2.size := by omega
    have hcap2 : o + cap * 4 ≤ cur2.size := by omega
    clear hb2 ho2 hi2 hf2 hz2'
    go_wp2_with (with_reducible refine wpList_clear_blk (P := Try.prog) w2 rfl (.tmp 31) _ rfl 101 4 _ Try.underlying95 zero_pk rfl zero_pk1 g (o + n' * 4) 1 (cap - n') (by simp [Act.eval, Act.put]) (by omega) 101 cur2 HB2.out hfit2 ?_; intro w3 cur3 hb3 hz3 ho3 hf3)
    have hcells := del_cells (i := i) (m := m) HX2.out HC.out HO2.out HI2.out (cur3 := cur3) (z3 := o + n' * 4 + 1 * 4) (by rw [HIM.out]; exact ho3)
    have HSL : Hid (Sl w3 B 101 4 (.slice (some ⟨g, o, none⟩) n' cap) n' (xs.take (i * 4) ++ xs.drop ((i + 1) * 4))) := Lib.hid (Sl.mk' hBg hb3 (by
      have h1 := HX2.out
      have h2 := HIM.out
      rw [List.length_append, List.length_take, List.length_drop]
      omega) (by omega) (by unfold maxLen; omega) (by omega) hcells)
    have HFF : Hid (Frm (fun k => (Value.slice (some ⟨g, o, none⟩) n cap).ownBlock = some k) w w3) := Lib.hid ((((Frm.refl _ w).drew).trans HF2.out).trans hf3 |>.mono (fun k _ h => by subst h; rfl))
    clear hcells hb3 hz3 ho3 hf3
    go_wp2_with fail
    go_ret
    exact ⟨_, rfl, HSL.out, HFF.out, rfl⟩
end
end Go.Proofs.Ytlceembcehokoaa
namespace Go.Proofs.Ytlceembcehokoaa
open Go.RowKit
set_option maxRecDepth 100000

set_option maxHeartbeats 1000000 in
theorem hasQ_any (w0 w : World) (F : Nat → Prop) (b m : Nat) (v : Value) (q : List Pq) (h : IsQ w0 F b m v q w) (hl : q.length ≤ 1000) (k : Int) : Calls Try.prog 71 #[.pointer (some ⟨b, 0, none⟩), .int .i64 k] w fun e w' => e = .returned (.bool (decide (0 ≤ k) && decide (k ≤ (q.length : Int) - 1))) ∧ w' = w := by
  obtain ⟨A, cap, rfl, hcl, hcm, _⟩ := h.sl.shape
  have c0 : w.cell? ⟨b, 0, none⟩ = some (.slice A q.length cap) := h.blk.cell 0
  have HW := Lib.hid (within_any k 0 ((q.length : Int) - 1) w)
  have hs1 : IntKind.i64.wrap ((q.length : Int) - 1) = (q.length : Int) - 1 := IntWalk.i64_in _ (by omega)
  generalize (decide (0 ≤ k) && decide (k ≤ (q.length : Int) - 1)) = r at HW ⊢
  clear h
  go_enter Try.func71, Try.ntmps71
  go_wp2_with fail
  refine HW.out.mono ?_
  rintro e w' ⟨rfl, rfl⟩
  go_wp2_with fail
  go_ret
  exact ⟨rfl, rfl⟩
theorem hasQ_yes {w0 w : World} {F : Nat → Prop} {b m : Nat} {v : Value} {q : List Pq} (h : IsQ w0 F b m v q w) (hl : q.length ≤ 1000) {k : Nat} (hk : k < q.length) : Calls Try.prog 71 #[.pointer (some ⟨b, 0, none⟩), .int .i64 (k : Int)] w fun e w' => e = .returned (.bool true) ∧ w' = w := by
  have := hasQ_any w0 w F b m v q h hl k
  rwa [show (decide (0 ≤ (k : Int)) && decide ((k : Int) ≤ (q.length : Int) - 1)) = true by simp; omega] at this
theorem hasQ_no {w0 w : World} {F : Nat → Prop} {b m : Nat} {v : Value} {q : List Pq} (h : IsQ w0 F b m v q w) (hl : q.length ≤ 1000) {k : Int} (hk : ¬ (0 ≤ k ∧ k < (q.length : Int))) : Calls Try.prog 71 #[.pointer (some ⟨b, 0, none⟩), .int .i64 k] w fun e w' => e = .returned (.bool false) ∧ w' = w := by
  have := hasQ_any w0 w F b m v q h hl k
  rwa [show (decide (0 ≤ k) && decide (k ≤ (q.length : Int) - 1)) = false by
    rw [Bool.and_eq_false_iff]
    by_cases h0 : 0 ≤ k
    · right; simp; omega
    · left; simp; omega] at this
/-- the packet at a place, and what is told of it -/
def pickL (l : List Ab) (k : Int) : Option Ab := if 0 ≤ k ∧ k < (l.length : Int) then l[k.toNat]? else none
theorem pickL_yes {l : List Ab} {k : Nat} (hk : k < l.length) : pickL l (k : Int) = some l[k] := by
  unfold pickL
  rw [if_pos (by omega)]
  simp [hk]
theorem pickL_no {l : List Ab} {k : Int} (hk : ¬ (0 ≤ k ∧ k < (l.length : Int))) : pickL l k = none := by
  unfold pickL
  rw [if_neg hk]
def CopyQ (o : Option Ab) (w : World) (e : Ending) (w' : World) : Prop :=
  ∃ v, e = .returned (.tuple #[.agg #[.int .i64 ((o.map Ab.f).getD 0), .int .i64 ((o.map Ab.t).getD 0), v], .int .i64 (if o.isSome then 0 else 2)]) ∧ Sl w' w.heap.size 5 1 v ((o.map Ab.bs).getD []).length (((o.map Ab.bs).getD []).map bv) ∧ Fresh w w'
set_option maxHeartbeats 4000000 in
theorem copyQ_any (w0 w : World) (F : Nat → Prop) (b m : Nat) (v : Value) (q : List Pq) (h : IsQ w0 F b m v q w) (hl : q.length ≤ 1000) (hbl : ∀ p ∈ q, p.a.bs.length ≤ 100000) (k : Int) :
    Calls Try.prog 26 #[.pointer (some ⟨b, 0, none⟩), .int .i64 k] w fun e w' => CopyQ (pickL (q.map Pq.a) k) w e w' := by
  obtain ⟨W, hW⟩ : ∃ W, w.alloc (.cells #[.int .i64 0, .int .i64 0, .slice none 0 0] 45) = W := ⟨_, rfl⟩
  have FW : Fresh w W := by rw [← hW]; exact (Frm.refl _ w).alloc _
  have BP : Hid (Blk W w.heap.size 45 #[.int .i64 0, .int .i64 0, .slice none 0 0]) := Lib.hid (by rw [← hW]; exact Blk.new w _ _)
  have HP := Lib.hid (h.fresh FW)
  have HFW := Lib.hid FW
  clear h FW
  by_cases hk : 0 ≤ k ∧ k < (q.length : Int)
  · obtain ⟨n, rfl⟩ : ∃ n : Nat, k = (n : Int) := ⟨k.toNat, by omega⟩
    have hn : n < q.length := by omega
    have hni : (n : Int) < (q.length : Int) := by omega
    have hn0 : (0 : Int) ≤ (n : Int) := by omega
    obtain ⟨g, o, cap, rfl, hqc, hcm, y0, y1, y2, y3⟩ := HP.out.at_ hn
    clear y3
    have HO := Lib.hid (HP.out.own _ (List.getElem_mem hn))
    have hbl2 := hbl _ (List.getElem_mem hn)
    have HH := Lib.hid (hasQ_yes HP.out hl hn)
    have HPK := Lib.hid (pickL_yes (l := q.map Pq.a) (k := n) (by simpa using hn))
    rw [List.getElem_map] at HPK
    generalize q[n] = p at y0 y1 y2 HO HPK hbl2
    obtain ⟨⟨pf, pt, pb, pbad⟩, pv⟩ := p
    dsimp only at y0 y1 y2 HO HPK hbl2
    obtain ⟨AB, cb, rfl, hbc, hbm, _⟩ := HO.out.shape
    have HCO := Lib.hid (copied_any W pf pt AB cb pb HO.out.rd (by omega) hbc hbm)
    have c0 : W.cell? ⟨b, 0, none⟩ = some (.slice (some ⟨g, o, none⟩) q.length cap) := HP.out.blk.cell 0
    rw [HPK.out]
    clear hbl hk HP hn
    generalize q.length = ql at *
    go_enter Try.func26, Try.ntmps26
    go_wp2_with fail
    clear hW
    refine HH.out.mono ?_
    rintro e w1 ⟨rfl, rfl⟩
    go_wp2_with fail
    refine HCO.out.mono ?_
    rintro e w3 ⟨v3, rfl, hs3, f3⟩
    obtain ⟨A3, c3, rfl, _⟩ := hs3.shape
    have b3 := BP.out.frm f3 (fun f => f)
    have x0 : w3.cell? ⟨w.heap.size, 0, none⟩ = some (.int .i64 0) := b3.cell 0
    have x1 : w3.cell? ⟨w.heap.size, 1, none⟩ = some (.int .i64 0) := b3.cell 1
    have x2 : w3.cell? ⟨w.heap.size, 2, none⟩ = some (.slice none 0 0) := b3.cell 2
    have z0 : w3.frozen? ⟨w.heap.size, 0, none⟩ = false := b3.frozen 0
    have z1 : w3.frozen? ⟨w.heap.size, 1, none⟩ = false := b3.frozen 1
    have z2 : w3.frozen? ⟨w.heap.size, 2, none⟩ = false := b3.frozen 2
    have HB3 := Lib.hid b3
    have HS3 := Lib.hid hs3
    have HF3 := Lib.hid (HFW.out.trans f3)
    have hlt : w.heap.size < w1.heap.size := BP.out.lt
    clear b3 hs3 f3
    go_wp2_with fail
    have hb2 := ((HB3.out.set 0 (.int .i64 pf)).set 1 (.int .i64 pt)).set 2 (.slice A3 pb.length c3)
    have F4 : Frm (fun k => k = w.heap.size) w3 (((w3.setCell ⟨w.heap.size, 0, none⟩ (.int .i64 pf)).setCell ⟨w.heap.size, 1, none⟩ (.int .i64 pt)).setCell ⟨w.heap.size, 2, none⟩ (.slice A3 pb.length c3)) :=
      (((Frm.refl (fun k => k = w.heap.size) w3).setCell (p := ⟨w.heap.size, 0, none⟩) (fun _ => rfl) _).setCell (p := ⟨w.heap.size, 1, none⟩) (fun _ => rfl) _).setCell (p := ⟨w.heap.size, 2, none⟩) (fun _ => rfl) _
    have hld := run_loadVar_row (P := Try.prog) _ (w.heap.size) 45 45 #[.int .i64 pf, .int .i64 pt, .slice A3 pb.length c3] (0, 0) _ hb2 Try.underlying45 rfl (by kernel_rfl)
    refine bodyPost_ret (v := .tuple #[.agg #[.int .i64 pf, .int .i64 pt, .slice A3 pb.length c3], .int .i64 0]) ?_ rfl ⟨_, rfl, ?_, ?_⟩
    · rw [results_cell_tmp Try.results26]
      show (((asAddr (.pointer (some ⟨w.heap.size, 0, none⟩))).run Try.prog _).andThen fun a w₁ => ((loadVar 45 a).run Try.prog w₁).andThen fun v w₂ => Result.ok (Value.tuple #[v, Value.int .i64 0]) w₂) = _
      simp only [asAddr, Sem.run_pure, Result.andThen_ok, hld]
    · exact (HS3.out.frm F4 (fun k hk e => by have := (HS3.out.lt k hk).1; omega)).less (by omega)
    · exact HF3.out.trans' F4 (fun k hk e => by omega)
  · have HH := Lib.hid (hasQ_no HP.out hl hk)
    rw [pickL_no (by simpa using hk)]
    have x0 : W.cell? ⟨w.heap.size, 0, none⟩ = some (.int .i64 0) := BP.out.cell 0
    have x1 : W.cell? ⟨w.heap.size, 1, none⟩ = some (.int .i64 0) := BP.out.cell 1
    have x2 : W.cell? ⟨w.heap.size, 2, none⟩ = some (.slice none 0 0) := BP.out.cell 2
    have z0 : W.frozen? ⟨w.heap.size, 0, none⟩ = false := BP.out.frozen 0
    have z1 : W.frozen? ⟨w.heap.size, 1, none⟩ = false := BP.out.frozen 1
    have z2 : W.frozen? ⟨w.heap.size, 2, none⟩ = false := BP.out.frozen 2
    clear hk
    go_enter Try.func26, Try.ntmps26
    go_wp2_with fail
    clear hW
    refine HH.out.mono ?_
    rintro e w1 ⟨rfl, rfl⟩
    go_wp2_with fail
    have hb2 := ((BP.out.set 0 (.int .i64 0)).set 1 (.int .i64 0)).set 2 (.slice none 0 0)
    have F4 : Frm (fun k => k = w.heap.size) w1 (((w1.setCell ⟨w.heap.size, 0, none⟩ (.int .i64 0)).setCell ⟨w.heap.size, 1, none⟩ (.int .i64 0)).setCell ⟨w.heap.size, 2, none⟩ (.slice none 0 0)) :=
      (((Frm.refl (fun k => k = w.heap.size) w1).setCell (p := ⟨w.heap.size, 0, none⟩) (fun _ => rfl) _).setCell (p := ⟨w.heap.size, 1, none⟩) (fun _ => rfl) _).setCell (p := ⟨w.heap.size, 2, none⟩) (fun _ => rfl) _
    have hld := run_loadVar_row (P := Try.prog) _ (w.heap.size) 45 45 #[.int .i64 0, .int .i64 0, .slice none 0 0] (0, 0) _ hb2 Try.underlying45 rfl (by kernel_rfl)
    refine bodyPost_ret (v := .tuple #[.agg #[.int .i64 0, .int .i64 0, .slice none 0 0], .int .i64 2]) ?_ rfl ⟨_, rfl, Sl.nil _ _ _ _, ?_⟩
    · rw [results_cell_tmp Try.results26]
      show (((asAddr (.pointer (some ⟨w.heap.size, 0, none⟩))).run Try.prog _).andThen fun a w₁ => ((loadVar 45 a).run Try.prog w₁).andThen fun v w₂ => Result.ok (Value.tuple #[v, Value.int .i64 2]) w₂) = _
      simp only [asAddr, Sem.run_pure, Result.andThen_ok, hld]
    · exact HFW.out.trans' F4 (fun k hk e => by omega)
end Go.Proofs.Ytlceembcehokoaa
namespace Go.Proofs.Ytlceembcehokoaa
open Go.RowKit
set_option maxRecDepth 100000

theorem IsS.low {w0 w : World} {F : Nat → Prop} {b c : Nat} {l : List Ab} {C : Int → Int → Bool} (h : IsS w0 F b l c C w) : ∀ k, F k → w0.heap.size ≤ k ∧ k < w.heap.size := by
  obtain ⟨m, v, q, _, h2, _⟩ := h
  exact h2.low
theorem IsS.frm {w0 w : World} {F : Nat → Prop} {b c : Nat} {l : List Ab} {C : Int → Int → Bool} (h : IsS w0 F b l c C w) : Fresh w0 w := by
  obtain ⟨m, v, q, _, h2, _⟩ := h
  exact h2.frm
/-- memory of one's own before and after -/
theorem StepS.wrap {w0 w W w4 w5 : World} {F T : Nat → Prop} {b c : Nat} {l : List Ab} {C : Int → Int → Bool} (h : StepS w0 F b l c C W w4) (hF : ∀ k, F k → k < w.heap.size) (hw0 : w0.heap.size ≤ w.heap.size) (K0 : Fresh w W) (K1 : Frm T w4 w5) (hT : ∀ k, T k → w.heap.size ≤ k ∧ k < W.heap.size) : StepS w0 F b l c C w w5 := by
  obtain ⟨F', h1, h2, h3⟩ := h
  refine ⟨F', h1.more K1 (fun k hk ht => ?_) (fun k ht => by have := (hT k ht).1; omega), ((K0.mono (fun _ _ f => f.elim)).trans' h2 (fun k _ e => e)).trans' K1 (fun k hk e => by have := (hT k e).1; omega), fun k hk => ?_⟩
  · have := hT k ht
    rcases h3 k hk with e | e
    · have := hF k e; omega
    · omega
  · rcases h3 k hk with e | e
    · exact .inl e
    · have := K0.size; exact .inr (by omega)
def dropL (l : List Ab) (k : Int) : List Ab := if 0 ≤ k ∧ k < (l.length : Int) then l.take k.toNat ++ l.drop (k.toNat + 1) else l
theorem dropL_yes {l : List Ab} {k : Nat} (hk : k < l.length) : dropL l (k : Int) = l.take k ++ l.drop (k + 1) := by
  unfold dropL
  rw [if_pos (by omega)]
  simp
theorem dropL_no {l : List Ab} {k : Int} (hk : ¬ (0 ≤ k ∧ k < (l.length : Int))) : dropL l k = l := by
  unfold dropL
  rw [if_neg hk]
theorem dropQ_put {w0 w w5 : World} {F : Nat → Prop} {b m c : Nat} {C : Int → Int → Bool} {v v5 : Value} {q : List Pq} (h : IsQ w0 F b m v q w) (hm : IsM F m c C w) {n : Nat} (hn : n < q.length)
    (hs5 : Sl w5 w0.heap.size 101 4 v5 (q.length - 1) ((q.flatMap qcells).take (n * 4) ++ (q.flatMap qcells).drop ((n + 1) * 4))) (hf5 : Frm (fun k => v.ownBlock = some k) w w5) (ho5 : v5.ownBlock = v.ownBlock) :
    StepS w0 F b (dropL (q.map Pq.a) n) c C w (w5.setCell ⟨b, 0, none⟩ v5) ∧ w5.cell? ⟨b, 0, none⟩ = some v ∧ w5.frozen? ⟨b, 0, none⟩ = false := by
  rw [qcells_take, qcells_drop, ← List.flatMap_append] at hs5
  have hmem : ∀ p ∈ q.take n ++ q.drop (n + 1), p ∈ q := fun p hp => by
    rcases List.mem_append.1 hp with hp | hp
    · exact List.mem_of_mem_take hp
    · exact List.mem_of_mem_drop hp
  have hsub : (q.take n ++ q.drop (n + 1)).Sublist q := by
    conv => rhs; rw [← List.take_append_drop n q]
    refine List.Sublist.append (List.Sublist.refl _) ?_
    rw [← List.drop_drop]
    exact List.drop_sublist _ _
  have hlen : (q.take n ++ q.drop (n + 1)).length = q.length - 1 := by rw [List.length_append, List.length_take, List.length_drop]; omega
  have hp := h.put (q' := q.take n ++ q.drop (n + 1)) (v' := v5) (Frm.refl _ w) hf5 (by rw [hlen]; exact hs5) (fun k hk => .inl (h.fv k (by rw [← ho5]; exact hk)))
    (fun p hp => ⟨h.own p (hmem p hp), fun k hk => .inl (h.fo p (hmem p hp) k hk)⟩) (h.sep.sublist hsub)
  refine ⟨?_, hp.2.1, hp.2.2.1⟩
  have := StepS.put h hm hp.1 (hp.2.2.2.mono (fun k _ e => e.elim .inl (fun e => .inr (.inl e))))
  rw [dropL_yes (by simpa using hn), ← List.map_take, ← List.map_drop, ← List.map_append]
  exact this
def LoseQ (w0 : World) (F : Nat → Prop) (b : Nat) (l : List Ab) (k : Int) (c : Nat) (C : Int → Int → Bool) (w : World) (e : Ending) (w' : World) : Prop :=
  e = .returned (.int .i64 (if (pickL l k).isSome then 0 else 2)) ∧ StepS w0 F b (dropL l k) c C w w'
set_option maxHeartbeats 4000000 in
theorem loseQ_any (w0 w : World) (F : Nat → Prop) (b : Nat) (l : List Ab) (c : Nat) (C : Int → Int → Bool) (h : IsS w0 F b l c C w) (hl : l.length ≤ 1000) (k : Int) :
    Calls Try.prog 28 #[.pointer (some ⟨b, 0, none⟩), .int .i64 k] w fun e w' => LoseQ w0 F b l k c C w e w' := by
  have HI := Lib.hid h
  obtain ⟨m, v, q, rfl, hq, hm⟩ := h
  rw [List.length_map] at hl
  by_cases hk : 0 ≤ k ∧ k < (q.length : Int)
  · obtain ⟨n, rfl⟩ : ∃ n : Nat, k = (n : Int) := ⟨k.toNat, by omega⟩
    have hn : n < q.length := by omega
    obtain ⟨A, cap, rfl, hcl, hcm, _⟩ := hq.sl.shape
    have HQ := Lib.hid hq
    have HMM := Lib.hid hm
    have HN := Lib.hid hn
    have HH := Lib.hid (hasQ_yes hq hl hn)
    have HD := Lib.hid (delete_any w w0.heap.size _ q.length _ hq.sl (by omega) n hn hq.one)
    have c0 : w.cell? ⟨b, 0, none⟩ = some (.slice A q.length cap) := hq.blk.cell 0
    have hs1 : IntKind.i64.wrap ((n : Int) + 1) = (n : Int) + 1 := IntWalk.i64_in _ (by omega)
    unfold LoseQ
    rw [show (pickL (q.map Pq.a) (n : Int)).isSome = true by rw [pickL_yes (by simpa using hn)]; rfl]
    clear hq hm hn hk HI
    go_enter Try.func28, Try.ntmps28
    go_wp2_with fail
    refine HH.out.mono ?_
    rintro e w1 ⟨rfl, rfl⟩
    go_wp2_with fail
    refine HD.out.mono ?_
    rintro e w5 ⟨v5, rfl, hs5, hf5, ho5⟩
    have HP := Lib.hid (dropQ_put HQ.out HMM.out HN.out hs5 hf5 ho5)
    have c5 := HP.out.2.1
    have z5 := HP.out.2.2
    obtain ⟨A5, cp5, rfl, _⟩ := hs5.shape
    clear hs5 hf5 ho5
    go_wp2_with fail
    go_ret
    exact ⟨rfl, HP.out.1⟩
  · have HH := Lib.hid (hasQ_no hq hl hk)
    unfold LoseQ
    rw [pickL_no (by simpa using hk), dropL_no (by simpa using hk)]
    clear hq hm hk
    go_enter Try.func28, Try.ntmps28
    go_wp2_with fail
    refine HH.out.mono ?_
    rintro e w1 ⟨rfl, rfl⟩
    go_wp2_with fail
    go_ret
    exact ⟨rfl, .still HI.out (Frm.refl _ _)⟩
def TakeQ (w0 : World) (F : Nat → Prop) (b : Nat) (l : List Ab) (k : Int) (c : Nat) (C : Int → Int → Bool) (w : World) (e : Ending) (w' : World) : Prop :=
  (∃ v, e = .returned (.tuple #[.agg #[.int .i64 (((pickL l k).map Ab.f).getD 0), .int .i64 (((pickL l k).map Ab.t).getD 0), v], .int .i64 (if (pickL l k).isSome then 0 else 2)]) ∧ Sl w' w.heap.size 5 1 v (((pickL l k).map Ab.bs).getD []).length ((((pickL l k).map Ab.bs).getD []).map bv)) ∧ StepS w0 F b (dropL l k) c C w w'
set_option maxHeartbeats 4000000 in
theorem takeQ_any (w0 w : World) (F : Nat → Prop) (b : Nat) (l : List Ab) (c : Nat) (C : Int → Int → Bool) (h : IsS w0 F b l c C w) (hl : l.length ≤ 1000) (hbl : ∀ p ∈ l, p.bs.length ≤ 100000) (k : Int) :
    Calls Try.prog 22 #[.pointer (some ⟨b, 0, none⟩), .int .i64 k] w fun e w' => TakeQ w0 F b l k c C w e w' := by
  obtain ⟨W, hW⟩ : ∃ W, w.alloc (.cells #[.int .i64 0, .int .i64 0, .slice none 0 0] 45) = W := ⟨_, rfl⟩
  have FW : Fresh w W := by rw [← hW]; exact (Frm.refl _ w).alloc _
  have BP : Hid (Blk W w.heap.size 45 #[.int .i64 0, .int .i64 0, .slice none 0 0]) := Lib.hid (by rw [← hW]; exact Blk.new w _ _)
  have HI := Lib.hid h
  have HFW := Lib.hid FW
  have HC : Hid (Calls Try.prog 26 #[.pointer (some ⟨b, 0, none⟩), .int .i64 k] W fun e w' => CopyQ (pickL l k) W e w') := Lib.hid (by
    obtain ⟨m, v, q, rfl, hq, hm⟩ := h.fresh FW
    exact copyQ_any w0 W F b m v q hq (by simpa using hl) (fun p hp => hbl _ (List.mem_map_of_mem hp)) k)
  unfold CopyQ at HC
  unfold TakeQ
  have HX : Hid (∀ (W3 : World), IsS w0 F b l c C W3 → Calls Try.prog 28 #[.pointer (some ⟨b, 0, none⟩), .int .i64 k] W3 fun e w' => LoseQ w0 F b l k c C W3 e w') := Lib.hid (fun W3 h3 => loseQ_any w0 W3 F b l c C h3 hl k)
  unfold LoseQ at HX
  generalize ((pickL l k).map Ab.f).getD 0 = pf at *
  generalize ((pickL l k).map Ab.t).getD 0 = pt at *
  generalize ((pickL l k).map Ab.bs).getD [] = pb at *
  generalize (if (pickL l k).isSome = true then (0 : Int) else 2) = err at *
  clear h FW hl hbl
  go_enter Try.func22, Try.ntmps22
  go_wp2_with fail
  clear hW
  refine HC.out.mono ?_
  rintro e w2 ⟨v2, rfl, hs2, f2⟩
  obtain ⟨A2, c2, rfl, _⟩ := hs2.shape
  obtain ⟨W3, hW3⟩ : ∃ W3, w2.alloc (.cells #[.int .i64 pf, .int .i64 pt, .slice A2 pb.length c2] 45) = W3 := ⟨_, rfl⟩
  have F3 : Fresh w2 W3 := by rw [← hW3]; exact (Frm.refl _ w2).alloc _
  have HQ : Hid (Blk W3 w2.heap.size 45 #[.int .i64 pf, .int .i64 pt, .slice A2 pb.length c2]) := Lib.hid (by rw [← hW3]; exact Blk.new w2 _ _)
  have HF3 := Lib.hid ((HFW.out.trans f2).trans F3)
  have HB3 := Lib.hid (BP.out.frm (f2.trans F3) (fun f => f))
  have HS3 := Lib.hid ((hs2.fresh F3).less (B' := w.heap.size) (by have := BP.out.lt; omega))
  have hne : w.heap.size ≠ w2.heap.size := by have := BP.out.lt; have := f2.size; omega
  have HL := Lib.hid (HX.out W3 (HI.out.fresh HF3.out))
  have HLOW : Hid (w.heap.size < W3.heap.size ∧ w.heap.size ≤ w2.heap.size) := Lib.hid (by have := BP.out.lt; have := f2.size; have := F3.size; omega)
  clear hs2 f2 F3
  go_wp2_with fail
  try rw [hW3]
  clear hW3
  refine HL.out.mono ?_
  rintro e w4 ⟨rfl, h4⟩
  have HST := Lib.hid h4
  obtain ⟨F', _, k4, _⟩ := h4
  have hout : ∀ k, F k → k < w.heap.size := fun k hk => (HI.out.low k hk).2
  have HOUT := Lib.hid hout
  have q4 := HQ.out.frm k4 (fun e => by have := hout _ e; have := HLOW.out; omega)
  have b4 := HB3.out.frm k4 (fun e => by have := hout _ e; omega)
  have HS4 := Lib.hid (HS3.out.frm k4 (fun k hk e => by have := hout _ e; have := (HS3.out.lt k hk).1; omega))
  have HB4 := Lib.hid b4
  have y0 : w4.cell? ⟨w2.heap.size, 0, none⟩ = some (.int .i64 pf) := q4.cell 0
  have y1 : w4.cell? ⟨w2.heap.size, 1, none⟩ = some (.int .i64 pt) := q4.cell 1
  have y2 : w4.cell? ⟨w2.heap.size, 2, none⟩ = some (.slice A2 pb.length c2) := q4.cell 2
  have x0 : w4.cell? ⟨w.heap.size, 0, none⟩ = some (.int .i64 0) := b4.cell 0
  have x1 : w4.cell? ⟨w.heap.size, 1, none⟩ = some (.int .i64 0) := b4.cell 1
  have x2 : w4.cell? ⟨w.heap.size, 2, none⟩ = some (.slice none 0 0) := b4.cell 2
  have z0 : w4.frozen? ⟨w.heap.size, 0, none⟩ = false := b4.frozen 0
  have z1 : w4.frozen? ⟨w.heap.size, 1, none⟩ = false := b4.frozen 1
  have z2 : w4.frozen? ⟨w.heap.size, 2, none⟩ = false := b4.frozen 2
  clear k4 q4 b4 hout
  go_wp2_with fail
  have hb2 := ((HB4.out.set 0 (.int .i64 pf)).set 1 (.int .i64 pt)).set 2 (.slice A2 pb.length c2)
  have F4 : Frm (fun k => k = w.heap.size) w4 (((w4.setCell ⟨w.heap.size, 0, none⟩ (.int .i64 pf)).setCell ⟨w.heap.size, 1, none⟩ (.int .i64 pt)).setCell ⟨w.heap.size, 2, none⟩ (.slice A2 pb.length c2)) :=
    (((Frm.refl (fun k => k = w.heap.size) w4).setCell (p := ⟨w.heap.size, 0, none⟩) (fun _ => rfl) _).setCell (p := ⟨w.heap.size, 1, none⟩) (fun _ => rfl) _).setCell (p := ⟨w.heap.size, 2, none⟩) (fun _ => rfl) _
  have hld := run_loadVar_row (P := Try.prog) _ (w.heap.size) 45 45 #[.int .i64 pf, .int .i64 pt, .slice A2 pb.length c2] (0, 0) _ hb2 Try.underlying45 rfl (by kernel_rfl)
  refine bodyPost_ret (v := .tuple #[.agg #[.int .i64 pf, .int .i64 pt, .slice A2 pb.length c2], .int .i64 err]) ?_ rfl ⟨⟨_, rfl, ?_⟩, ?_⟩
  · rw [results_cell_tmp Try.results22]
    show (((asAddr (.pointer (some ⟨w.heap.size, 0, none⟩))).run Try.prog _).andThen fun a w₁ => ((loadVar 45 a).run Try.prog w₁).andThen fun v w₂ => Result.ok (Value.tuple #[v, Value.int .i64 err]) w₂) = _
    simp only [asAddr, Sem.run_pure, Result.andThen_ok, hld]
  · exact HS4.out.frm F4 (fun k hk e => by subst e; exact HS4.out.apart HB4.out (by decide) hk)
  · exact HST.out.wrap HOUT.out HI.out.frm.size HF3.out F4 (fun k e => by have := HLOW.out.1; omega)
end Go.Proofs.Ytlceembcehokoaa
namespace Go.Proofs.Ytlceembcehokoaa
open Go.RowKit
set_option maxRecDepth 100000

theorem xor_u8 (c t : UInt8) : bits .xor .u8 (c.toNat : Int) (t.toNat : Int) = ((c ^^^ t).toNat : Int) := by
  rw [UInt8.toNat_xor]
  exact u8_xor_nat c.toNat t.toNat c.toNat_lt t.toNat_lt
def spoilE (l : List Ab) (k at_ : Int) : Int :=
  match pickL l k with
  | none => 2
  | some p => if 0 ≤ at_ ∧ at_ < (p.bs.length : Int) then (if p.bad = true then 7 else 0) else 1
def spoilA (p : Ab) (j : Nat) (t : UInt8) : Ab := ⟨p.f, p.t, p.bs.set j ((p.bs[j]?.getD 0) ^^^ t), true⟩
def spoilL (l : List Ab) (k at_ : Int) (t : UInt8) : List Ab :=
  match pickL l k with
  | none => l
  | some p => if (0 ≤ at_ ∧ at_ < (p.bs.length : Int)) ∧ p.bad = false then l.set k.toNat (spoilA p at_.toNat t) else l
theorem qcells_set : ∀ (l : List Pq) (n : Nat) (h : n < l.length) (p : Pq), p.a.f = l[n].a.f → p.a.t = l[n].a.t → p.v = l[n].v → p.a.bad = true → (l.flatMap qcells).set (n * 4 + 3) (.bool true) = (l.set n p).flatMap qcells
  | x :: l, 0, _, p, e1, e2, e3, e4 => by
    simp only [List.getElem_cons_zero] at e1 e2 e3
    rw [List.flatMap_cons, List.set_cons_zero, List.flatMap_cons, List.set_append_left _ _ (by show 0 * 4 + 3 < 4; omega)]
    unfold qcells
    rw [e1, e2, e3, e4]
    rfl
  | x :: l, n + 1, h, p, e1, e2, e3, e4 => by
    simp only [List.getElem_cons_succ] at e1 e2 e3
    rw [List.flatMap_cons, List.set_cons_succ, List.flatMap_cons, List.set_append_right _ _ (by show 4 ≤ _; omega), show (qcells x).length = 4 from rfl, show (n + 1) * 4 + 3 - 4 = n * 4 + 3 by omega]
    rw [qcells_set l n (by simpa using h) p e1 e2 e3 e4]
theorem sep_symm {u v : Value} (h : Sep u v) : Sep v u := fun k h1 h2 => h k h2 h1
theorem sep_at {q : List Pq} (h : q.Pairwise (fun x y => Sep x.v y.v)) {i j : Nat} (hi : i < q.length) (hj : j < q.length) (hne : i ≠ j) : Sep q[i].v q[j].v := by
  rw [List.pairwise_iff_getElem] at h
  rcases Nat.lt_or_gt_of_ne hne with hl | hl
  · exact h i j hi hj hl
  · exact sep_symm (h j i hj hi hl)
theorem sep_set {q : List Pq} (h : q.Pairwise (fun x y => Sep x.v y.v)) {n : Nat} (hn : n < q.length) {p : Pq} (hp : p.v = q[n].v) : (q.set n p).Pairwise (fun x y => Sep x.v y.v) := by
  have e : (q.set n p).map Pq.v = q.map Pq.v := by
    rw [List.map_set, hp, ← List.getElem_map (f := Pq.v) (h := by simpa using hn), List.set_getElem_self]
  have h' : (q.map Pq.v).Pairwise Sep := List.pairwise_map.2 h
  rw [← e] at h'
  exact List.pairwise_map.1 h'
/-- of the packets other than the one at a place -/
theorem mem_set_at {q : List Pq} {n : Nat} {p x : Pq} (hx : x ∈ q.set n p) : (x = p ∧ n < q.length) ∨ ∃ i, ∃ hi : i < q.length, i ≠ n ∧ x = q[i] := by
  obtain ⟨i, hi, rfl⟩ := List.mem_iff_getElem.1 hx
  have hi' : i < q.length := by simpa using hi
  by_cases e : n = i
  · subst e
    left
    exact ⟨by simp, hi'⟩
  · right
    exact ⟨i, hi', fun h => e h.symm, by rw [List.getElem_set_ne e]⟩
theorem bs_set {bs : List UInt8} {j : Nat} (y : UInt8) : (bs.map bv).set j (.int .u8 (y.toNat : Int)) = (bs.set j y).map bv := by rw [List.map_set]; rfl
theorem spoilQ_put {w0 w : World} {F : Nat → Prop} {b m c : Nat} {C : Int → Int → Bool} {v : Value} {q : List Pq} (h : IsQ w0 F b m v q w) (hm : IsM F m c C w) {n : Nat} (hn : n < q.length) {g o cap : Nat} (hv : v = .slice (some ⟨g, o, none⟩) q.length cap)
    {h' oo cb : Nat} {j : Nat} (hpv : q[n].v = .slice (some ⟨h', oo, none⟩) q[n].a.bs.length cb) (hj : j < q[n].a.bs.length) (t : UInt8) {y : UInt8} (hy : y = q[n].a.bs[j] ^^^ t) :
    StepS w0 F b ((q.map Pq.a).set n (spoilA q[n].a j t)) c C w ((w.setCell ⟨h', oo + j, none⟩ (.int .u8 (y.toNat : Int))).setCell ⟨g, o + (n * 4 + 3), none⟩ (.bool true)) := by
  obtain ⟨p', hp'⟩ : ∃ p' : Pq, p' = ⟨spoilA q[n].a j t, q[n].v⟩ := ⟨_, rfl⟩
  have hbs' : p'.a.bs = q[n].a.bs.set j y := by rw [hp', hy]; unfold spoilA; simp [hj]
  have hv' : p'.v = q[n].v := by rw [hp']
  obtain ⟨w1, hw1⟩ : ∃ w1, w.setCell ⟨h', oo + j, none⟩ (.int .u8 (y.toNat : Int)) = w1 := ⟨_, rfl⟩
  obtain ⟨w2, hw2⟩ : ∃ w2, w1.setCell ⟨g, o + (n * 4 + 3), none⟩ (.bool true) = w2 := ⟨_, rfl⟩
  have F1 : Frm (fun k => k = h') w w1 := by rw [← hw1]; exact (Frm.refl (fun k => k = h') w).setCell (p := ⟨h', oo + j, none⟩) (fun _ => rfl) _
  have F2 : Frm (fun k => k = g) w1 w2 := by rw [← hw2]; exact (Frm.refl (fun k => k = g) w1).setCell (p := ⟨g, o + (n * 4 + 3), none⟩) (fun _ => rfl) _
  have hmemn := List.getElem_mem hn
  have own := h.own _ hmemn
  have hob : q[n].v.ownBlock = some h' := by rw [hpv]; rfl
  have hgb : v.ownBlock = some g := by rw [hv]; rfl
  have hbh : b ≠ h' := fun e => own.apart h.blk (by decide) (by rw [hob, e])
  have hbg : b ≠ g := fun e => h.sl.apart h.blk (by decide) (by rw [hgb, e])
  have hgh : g ≠ h' := fun e => Rc.sl_apart own h.sl (by decide) h' hob (by rw [hgb, e])
  have slF : ∀ {p : Pq}, p ∈ q → p.v.ownBlock ≠ some g := fun {p} hp e => Rc.sl_apart (h.own p hp) h.sl (by decide) g e hgb
  have hs1 : Sl w1 w0.heap.size 101 4 v q.length (q.flatMap qcells) := h.sl.frm F1 (fun k hk e => by subst e; rw [hgb] at hk; exact hgh (Option.some.inj hk))
  have hs2 : Sl w2 w0.heap.size 101 4 v q.length ((q.set n p').flatMap qcells) := by
    rw [← hw2]
    rw [hv] at hs1 ⊢
    have := hs1.store (j := n * 4 + 3) (by rw [qcells_len]; omega) (.bool true)
    rwa [qcells_set q n hn p' (by rw [hp']; rfl) (by rw [hp']; rfl) hv' (by rw [hp']; rfl)] at this
  have size2 : w2.heap.size = w.heap.size := by rw [← hw2, ← hw1]; simp [World.setCell]
  have hQ : IsQ w0 F b m v (q.set n p') w2 := by
    refine ⟨(h.blk.frm F1 hbh).frm F2 hbg, by rw [List.length_set]; exact hs2, ?_, sep_set h.sep hn hv', h.fv, ?_, h.fb, fun k hk => by rw [size2]; exact h.low k hk, ?_⟩
    · intro p hp
      rcases mem_set_at hp with ⟨rfl, _⟩ | ⟨i, hi, hne, rfl⟩
      · have o1 : Sl w1 w0.heap.size 5 1 p.v p.a.bs.length (p.a.bs.map bv) := by
          rw [hv', hbs', List.length_set, ← bs_set, ← hw1]
          rw [hpv] at own ⊢
          exact own.store (j := j) (by rw [List.length_map]; exact hj) _
        exact o1.frm F2 (fun k hk e => by subst e; rw [hv'] at hk; exact slF hmemn hk)
      · have hmi := List.getElem_mem hi
        have o1 := (h.own _ hmi).frm F1 (fun k hk e => by subst e; exact sep_at h.sep hi hn hne k hk hob)
        exact o1.frm F2 (fun k hk e => by subst e; exact slF hmi hk)
    · intro p hp k hk
      rcases mem_set_at hp with ⟨rfl, _⟩ | ⟨i, hi, hne, rfl⟩
      · exact h.fo _ hmemn k (by rw [← hv']; exact hk)
      · exact h.fo _ (List.getElem_mem hi) k hk
    · exact (h.frm.trans' F1 (fun k hk e => by subst e; have := (own.lt _ hob).1; omega)).trans' F2 (fun k hk e => by subst e; have := (h.sl.lt _ hgb).1; omega)
  rw [hw1, hw2]
  have hK : Frm (Only b v q) w w2 := ((F1.mono (T := Only b v q) (fun k _ e => by subst e; exact .inr (.inr ⟨_, hmemn, hob⟩))).trans' F2 (fun k _ e => by subst e; exact .inr (.inl hgb)))
  have := (StepS.put (w5 := w) h hm (v' := v) (q' := q.set n p') ⟨hQ.blk, hQ.sl, hQ.own, hQ.sep, fun k hk => .inl (hQ.fv k hk), fun p hp k hk => .inl (hQ.fo p hp k hk), .inl hQ.fb, fun k hk => by rcases hk with e | ⟨e1, e2⟩; exact hQ.low k e; omega, hQ.frm⟩ hK)
  rw [List.map_set, hp'] at this
  exact this
def SpoilQ (w0 : World) (F : Nat → Prop) (b : Nat) (l : List Ab) (k at_ : Int) (t : UInt8) (c : Nat) (C : Int → Int → Bool) (w : World) (e : Ending) (w' : World) : Prop :=
  e = .returned (.int .i64 (spoilE l k at_)) ∧ StepS w0 F b (spoilL l k at_ t) c C w w'
set_option maxHeartbeats 4000000 in
theorem spoilQ_any (w0 w : World) (F : Nat → Prop) (b : Nat) (l : List Ab) (c : Nat) (C : Int → Int → Bool) (h : IsS w0 F b l c C w) (hl : l.length ≤ 1000) (hbl : ∀ p ∈ l, p.bs.length ≤ 100000) (k at_ : Int) (t : UInt8) :
    Calls Try.prog 30 #[.pointer (some ⟨b, 0, none⟩), .int .i64 k, .int .i64 at_, bv t] w fun e w' => SpoilQ w0 F b l k at_ t c C w e w' := by
  have HI := Lib.hid h
  obtain ⟨m, v, q, rfl, hq, hm⟩ := h
  rw [List.length_map] at hl
  unfold bv SpoilQ
  by_cases hk : 0 ≤ k ∧ k < (q.length : Int)
  · obtain ⟨n, rfl⟩ : ∃ n : Nat, k = (n : Int) := ⟨k.toNat, by omega⟩
    have hn : n < q.length := by omega
    have hpk : pickL (q.map Pq.a) (n : Int) = some q[n].a := by rw [pickL_yes (by simpa using hn), List.getElem_map]
    have hbn := hbl _ (List.mem_map_of_mem (List.getElem_mem hn))
    obtain ⟨g, o, cap, hv, hqc, hcm, y0, y1, y2, y3⟩ := hq.at_ hn
    have hown := hq.own _ (List.getElem_mem hn)
    obtain ⟨AB, cb, hpv, hbc, hbm, _⟩ := hown.shape
    rw [hpv] at y2
    have HH := Lib.hid (hasQ_yes hq hl hn)
    have c0 : w.cell? ⟨b, 0, none⟩ = some (.slice (some ⟨g, o, none⟩) q.length cap) := by rw [← hv]; exact hq.blk.cell 0
    have hni : (n : Int) < (q.length : Int) := by omega
    have hn0 : (0 : Int) ≤ (n : Int) := by omega
    have hbw : IntKind.i64.wrap ((q[n].a.bs.length : Int) - 1) = (q[n].a.bs.length : Int) - 1 := IntWalk.i64_in _ (by omega)
    have HW := Lib.hid (within_any at_ 0 ((q[n].a.bs.length : Int) - 1) w)
    by_cases hat : 0 ≤ at_ ∧ at_ < (q[n].a.bs.length : Int)
    · obtain ⟨j, rfl⟩ : ∃ j : Nat, at_ = (j : Int) := ⟨at_.toNat, by omega⟩
      have hj : j < q[n].a.bs.length := by omega
      have hji : (j : Int) < (q[n].a.bs.length : Int) := by omega
      rw [show (decide (0 ≤ (j : Int)) && decide ((j : Int) ≤ (q[n].a.bs.length : Int) - 1)) = true by simp; omega] at HW
      obtain ⟨h', oo, rfl⟩ : ∃ h' oo, AB = some ⟨h', oo, none⟩ := by
        obtain ⟨g1, o1, c1, e, _⟩ := hown.head (by omega)
        rw [hpv] at e
        injection e with e1
        exact ⟨g1, o1, e1⟩
      cases hbad : q[n].a.bad with
      | true =>
        have HE : Hid (spoilE (q.map Pq.a) (n : Int) (j : Int) = 7 ∧ spoilL (q.map Pq.a) (n : Int) (j : Int) t = q.map Pq.a) := Lib.hid (by
          unfold spoilE spoilL
          rw [hpk]
          simp only [hbad, if_pos hat, if_true, Bool.true_eq_false, and_false, if_false]
          try trivial)
        rw [HE.out.1, HE.out.2]
        rw [hbad] at y3
        clear hbl hk hpk hv hq hm hown hpv hat hbad HE
        generalize q[n] = p at *
        generalize p.a.bs.length = bl at *
        generalize q.length = ql at *
        go_enter Try.func30, Try.ntmps30
        go_wp2_with fail
        refine HH.out.mono ?_
        rintro e w1 ⟨rfl, rfl⟩
        go_wp2_with fail
        refine HW.out.mono ?_
        rintro e w2 ⟨rfl, rfl⟩
        go_wp2_with fail
        go_ret
        exact ⟨rfl, .still HI.out (Frm.refl _ _)⟩
      | false =>
        have HE : Hid (spoilE (q.map Pq.a) (n : Int) (j : Int) = 0 ∧ spoilL (q.map Pq.a) (n : Int) (j : Int) t = (q.map Pq.a).set n (spoilA q[n].a j t)) := Lib.hid (by
          unfold spoilE spoilL
          rw [hpk]
          simp only [hbad, if_pos hat, Bool.false_eq_true, if_false, and_true, Int.toNat_natCast]
          try trivial)
        rw [HE.out.1, HE.out.2]
        rw [hbad] at y3
        have hcell : w.cell? ⟨h', oo + j, none⟩ = some (.int .u8 (q[n].a.bs[j].toNat : Int)) := by
          have h1 := hown
          rw [hpv] at h1
          rw [h1.cell (j := j) (by rw [List.length_map]; exact hj), List.getElem_map]
          rfl
        have hx := xor_u8 q[n].a.bs[j] t
        have HP := Lib.hid (spoilQ_put hq hm hn hv hpv hj t (y := q[n].a.bs[j] ^^^ t) rfl)
        generalize q[n].a.bs[j] ^^^ t = y at *
        generalize q[n].a.bs[j] = x at *
        have zf : ∀ i, w.frozen? ⟨h', i, none⟩ = false := fun i => by have h1 := hown; rw [hpv] at h1; exact h1.frozen i
        have zg : ∀ i, w.frozen? ⟨g, i, none⟩ = false := fun i => by have h1 := hq.sl; rw [hv] at h1; exact h1.frozen i
        have hgh : g ≠ h' := fun e => Rc.sl_apart hown hq.sl (by decide) h' (by rw [hpv]; rfl) (by rw [hv, e]; rfl)
        have hbh : b ≠ h' := fun e => hown.apart hq.blk (by decide) (by rw [hpv, e]; rfl)
        have hj0 : (0 : Int) ≤ (j : Int) := by omega
        clear hbl hk hpk hv hq hm hown hpv hat hbad HE
        generalize spoilA q[n].a j t = pa at *
        generalize q[n] = p at *
        generalize p.a.bs.length = bl at *
        obtain ⟨ql, hql⟩ : ∃ ql, q.length = ql := ⟨_, rfl⟩
        rw [hql] at *
        clear hql
        go_enter Try.func30, Try.ntmps30
        go_wp2_with fail
        refine HH.out.mono ?_
        rintro e w1 ⟨rfl, rfl⟩
        go_wp2_with fail
        refine HW.out.mono ?_
        rintro e w2 ⟨rfl, rfl⟩
        go_wp2_with fail
        go_ret
        exact ⟨rfl, HP.out⟩
    · have HE : Hid (spoilE (q.map Pq.a) (n : Int) at_ = 1 ∧ spoilL (q.map Pq.a) (n : Int) at_ t = q.map Pq.a) := Lib.hid (by
        unfold spoilE spoilL
        rw [hpk]
        simp only [if_neg hat, if_neg (fun e : (_ ∧ _) => hat e.1)]
        try trivial)
      rw [HE.out.1, HE.out.2]
      rw [show (decide (0 ≤ at_) && decide (at_ ≤ (q[n].a.bs.length : Int) - 1)) = false by
        rw [Bool.and_eq_false_iff]
        by_cases h0 : 0 ≤ at_
        · right; simp; omega
        · left; simp; omega] at HW
      clear hbl hk hpk hv hq hm hown hpv hat HE y3
      generalize q[n] = p at *
      generalize p.a.bs.length = bl at *
      generalize q.length = ql at *
      go_enter Try.func30, Try.ntmps30
      go_wp2_with fail
      refine HH.out.mono ?_
      rintro e w1 ⟨rfl, rfl⟩
      go_wp2_with fail
      refine HW.out.mono ?_
      rintro e w2 ⟨rfl, rfl⟩
      go_wp2_with fail
      go_ret
      exact ⟨rfl, .still HI.out (Frm.refl _ _)⟩
  · have HH := Lib.hid (hasQ_no hq hl hk)
    have HE : Hid (spoilE (q.map Pq.a) k at_ = 2 ∧ spoilL (q.map Pq.a) k at_ t = q.map Pq.a) := Lib.hid (by
      unfold spoilE spoilL
      rw [pickL_no (by simpa using hk)]
      exact ⟨rfl, rfl⟩)
    rw [HE.out.1, HE.out.2]
    clear hq hm hk hbl HE
    go_enter Try.func30, Try.ntmps30
    go_wp2_with fail
    refine HH.out.mono ?_
    rintro e w1 ⟨rfl, rfl⟩
    go_wp2_with fail
    go_ret
    exact ⟨rfl, .still HI.out (Frm.refl _ _)⟩
end Go.Proofs.Ytlceembcehokoaa

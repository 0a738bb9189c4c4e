/- Net22, Net23. (Put together by merge28.py.) -/
import Derived.Test.YtlceembcehokoaaNs1
import Derived.BigQuiet
import Derived.Laws.ResultCell
import Derived.Test.YtlceembcehokoaaNs2
import Derived.StillTailTactics
namespace Go.Proofs.Ytlceembcehokoaa
open Go.RowKit
set_option maxRecDepth 100000

def rcells (p : Pq) : List Value := [.int .i64 p.a.f, .int .i64 p.a.t, p.v]
def dcell (p : Pq) : Value := .bool p.a.bad
theorem rcells_len (l : List Pq) : (l.flatMap rcells).length = l.length * 3 := flatMap_len l (fun _ _ => rfl)
theorem rcells_get : ∀ (l : List Pq) (i : Nat) (h : i < l.length) (j : Nat), j < 3 → (l.flatMap rcells)[i * 3 + j]? = (rcells l[i])[j]?
  | x :: l, 0, _, j, hj => by
    rw [List.flatMap_cons, Nat.zero_mul, Nat.zero_add, List.getElem?_append_left (by exact hj)]
    rfl
  | x :: l, i + 1, h, j, hj => by
    rw [List.flatMap_cons, List.getElem?_append_right (by show 3 ≤ _; omega), show (rcells x).length = 3 from rfl, show (i + 1) * 3 + j - 3 = i * 3 + j by omega]
    exact rcells_get l i (by simpa using h) j hj
theorem rcells_take (l : List Pq) (k : Nat) : (l.take k).flatMap rcells = (l.flatMap rcells).take (k * 3) := by
  induction k generalizing l with
  | zero => simp
  | succ k ih =>
    cases l with
    | nil => simp
    | cons x r => rw [List.flatMap_cons, List.take_succ_cons, List.flatMap_cons, List.take_append, show (rcells x).length = 3 from rfl, show (k + 1) * 3 - 3 = k * 3 by omega, ih, List.take_of_length_le (l := rcells x) (by show 3 ≤ _; omega)]
theorem rcells_drop (l : List Pq) (k : Nat) : (l.drop k).flatMap rcells = (l.flatMap rcells).drop (k * 3) := by
  induction k generalizing l with
  | zero => simp
  | succ k ih =>
    cases l with
    | nil => simp
    | cons x r => rw [List.flatMap_cons, List.drop_succ_cons, List.drop_append, show (rcells x).length = 3 from rfl, show (k + 1) * 3 - 3 = k * 3 by omega, ih, List.drop_of_length_le (l := rcells x) (by show 3 ≤ _; omega), List.nil_append]
/-- the document's net: its block -/
def RBlk (w : World) (r : Nat) (v u : Value) (C : Int → Int → Bool) : Prop :=
  ∃ cs, Blk w r 61 cs ∧ cs[0]? = some v ∧ cs[1]? = some u ∧ cs.size = 258 ∧ ∀ x y : Nat, x ≤ 15 → y ≤ 15 → cs[2 + x * 16 + y]? = some (.bool (C x y))
theorem RBlk.frm {S : Nat → Prop} {w w' : World} {r : Nat} {v u : Value} {C : Int → Int → Bool} (h : RBlk w r v u C) (K : Frm S w w') (hn : ¬ S r) : RBlk w' r v u C := by
  obtain ⟨cs, h1, h2⟩ := h
  exact ⟨cs, h1.frm K hn, h2⟩
theorem RBlk.cell0 {w : World} {r : Nat} {v u : Value} {C : Int → Int → Bool} (h : RBlk w r v u C) : w.cell? ⟨r, 0, none⟩ = some v := by
  obtain ⟨cs, h1, h2, _⟩ := h
  rw [h1.cell, h2]
theorem RBlk.cell1 {w : World} {r : Nat} {v u : Value} {C : Int → Int → Bool} (h : RBlk w r v u C) : w.cell? ⟨r, 1, none⟩ = some u := by
  obtain ⟨cs, h1, _, h2, _⟩ := h
  rw [h1.cell, h2]
theorem RBlk.cut {w : World} {r : Nat} {v u : Value} {C : Int → Int → Bool} (h : RBlk w r v u C) {x y : Nat} (hx : x ≤ 15) (hy : y ≤ 15) : w.cell? ⟨r, 2 + x * 16 + y, none⟩ = some (.bool (C x y)) := by
  obtain ⟨cs, h1, _, _, _, h2⟩ := h
  rw [h1.cell, h2 x y hx hy]
theorem RBlk.frozen {w : World} {r : Nat} {v u : Value} {C : Int → Int → Bool} (h : RBlk w r v u C) (i : Nat) : w.frozen? ⟨r, i, none⟩ = false := by
  obtain ⟨cs, h1, _⟩ := h
  exact h1.frozen i
theorem RBlk.lt {w : World} {r : Nat} {v u : Value} {C : Int → Int → Bool} (h : RBlk w r v u C) : r < w.heap.size := by
  obtain ⟨cs, h1, _⟩ := h
  exact h1.lt
theorem RBlk.apart {w : World} {r : Nat} {v u : Value} {C : Int → Int → Bool} (h : RBlk w r v u C) {B z n : Nat} {e : TypeId} {s : Value} {xs : List Value} (hs : Sl w B e z s n xs) (hne : e ≠ 61) : s.ownBlock ≠ some r := by
  obtain ⟨cs, h1, _⟩ := h
  exact hs.apart h1 hne
theorem RBlk.set0 {w : World} {r : Nat} {v u : Value} {C : Int → Int → Bool} (h : RBlk w r v u C) (v' : Value) : RBlk (w.setCell ⟨r, 0, none⟩ v') r v' u C := by
  obtain ⟨cs, h1, h2, h3, h4, h5⟩ := h
  refine ⟨_, h1.set 0 v', by simp [h4], by simp [h3], by simp [h4], fun x y hx hy => ?_⟩
  rw [Array.getElem?_setIfInBounds, if_neg (by omega)]
  exact h5 x y hx hy
theorem RBlk.set1 {w : World} {r : Nat} {v u : Value} {C : Int → Int → Bool} (h : RBlk w r v u C) (u' : Value) : RBlk (w.setCell ⟨r, 1, none⟩ u') r v u' C := by
  obtain ⟨cs, h1, h2, h3, h4, h5⟩ := h
  refine ⟨_, h1.set 1 u', by simp [h2], by simp [h4], by simp [h4], fun x y hx hy => ?_⟩
  rw [Array.getElem?_setIfInBounds, if_neg (by omega)]
  exact h5 x y hx hy
/-- the document's net, its packets -/
structure IsR (w0 : World) (F : Nat → Prop) (r : Nat) (v u : Value) (q : List Pq) (C : Int → Int → Bool) (w : World) : Prop where
  blk : RBlk w r v u C
  sl : Sl w w0.heap.size 45 3 v q.length (q.flatMap rcells)
  bad : Sl w w0.heap.size 4 1 u q.length (q.map dcell)
  own : ∀ p ∈ q, Sl w w0.heap.size 5 1 p.v p.a.bs.length (p.a.bs.map bv)
  sep : q.Pairwise (fun x y => Sep x.v y.v)
  fv : ∀ k, v.ownBlock = some k → F k
  fu : ∀ k, u.ownBlock = some k → F k
  fo : ∀ p ∈ q, ∀ k, p.v.ownBlock = some k → F k
  fb : F r
  low : ∀ k, F k → w0.heap.size ≤ k ∧ k < w.heap.size
  frm : Fresh w0 w
theorem IsR.more {w0 w w' : World} {F S : Nat → Prop} {r : Nat} {v u : Value} {q : List Pq} {C : Int → Int → Bool} (h : IsR w0 F r v u q C w) (K : Frm S w w') (hn : ∀ k, F k → ¬ S k) (hS : ∀ k, S k → w0.heap.size ≤ k) : IsR w0 F r v u q C w' :=
  ⟨h.blk.frm K (hn _ h.fb), h.sl.frm K (fun k hk => hn _ (h.fv k hk)), h.bad.frm K (fun k hk => hn _ (h.fu k hk)), fun p hp => (h.own p hp).frm K (fun k hk => hn _ (h.fo p hp k hk)), h.sep, h.fv, h.fu, h.fo, h.fb, fun k hk => ⟨(h.low k hk).1, Nat.lt_of_lt_of_le (h.low k hk).2 K.size⟩, h.frm.trans' K (fun k hk e => by have := hS k e; omega)⟩
theorem IsR.fresh {w0 w w' : World} {F : Nat → Prop} {r : Nat} {v u : Value} {q : List Pq} {C : Int → Int → Bool} (h : IsR w0 F r v u q C w) (K : Fresh w w') : IsR w0 F r v u q C w' := h.more K (fun _ _ f => f) (fun _ f => f.elim)
theorem rcells_one {w0 w : World} {F : Nat → Prop} {r : Nat} {v u : Value} {q : List Pq} {C : Int → Int → Bool} (h : IsR w0 F r v u q C w) : ∀ {x : List Pq}, (∀ p ∈ x, p ∈ q) → ∀ u ∈ x.flatMap rcells, u.oneCell' = true := by
  intro x hx u hu
  obtain ⟨p, hp, hu⟩ := List.mem_flatMap.1 hu
  obtain ⟨A, c, e, _⟩ := (h.own p (hx p hp)).shape
  unfold rcells at hu
  rw [e] at hu
  simp only [List.mem_cons, List.not_mem_nil, or_false] at hu
  rcases hu with rfl | rfl | rfl <;> rfl
theorem dcell_one (x : List Pq) : ∀ u ∈ x.map dcell, u.oneCell' = true := by
  intro u hu
  obtain ⟨p, _, rfl⟩ := List.mem_map.1 hu
  rfl
/-- the one at a place, where it lies -/
theorem IsR.at_ {w0 w : World} {F : Nat → Prop} {r : Nat} {v u : Value} {q : List Pq} {C : Int → Int → Bool} (h : IsR w0 F r v u q C w) {k : Nat} (hk : k < q.length) : ∃ g o cap, v = .slice (some ⟨g, o, none⟩) q.length cap ∧ q.length ≤ cap ∧ cap ≤ maxLen ∧
    w.cell? ⟨g, o + k * 3, none⟩ = some (.int .i64 q[k].a.f) ∧ w.cell? ⟨g, o + k * 3 + 1, none⟩ = some (.int .i64 q[k].a.t) ∧ w.cell? ⟨g, o + k * 3 + 2, none⟩ = some q[k].v := by
  obtain ⟨g, o, cap, rfl, _, _, h1, h2⟩ := h.sl.head (by omega)
  have hl := rcells_len q
  have key : ∀ (j : Nat) (u : Value), j < 3 → (rcells q[k])[j]? = some u → w.cell? ⟨g, o + k * 3 + j, none⟩ = some u := fun j u hj hu => by
    have := h.sl.cell (j := k * 3 + j) (by omega)
    rw [Nat.add_assoc, this, ← hu, ← rcells_get q k hk j hj, List.getElem?_eq_getElem]
  exact ⟨g, o, cap, rfl, h1, h2, key 0 _ (by omega) rfl, key 1 _ (by omega) rfl, key 2 _ (by omega) rfl⟩
def IsRd (w0 : World) (F : Nat → Prop) (r : Nat) (l : List Ab) (C : Int → Int → Bool) (w : World) : Prop := ∃ v u q, q.map Pq.a = l ∧ IsR w0 F r v u q C w
theorem IsRd.more {w0 w w' : World} {F S : Nat → Prop} {r : Nat} {l : List Ab} {C : Int → Int → Bool} (h : IsRd w0 F r l C w) (K : Frm S w w') (hn : ∀ k, F k → ¬ S k) (hS : ∀ k, S k → w0.heap.size ≤ k) : IsRd w0 F r l C w' := by
  obtain ⟨v, u, q, h1, h2⟩ := h
  exact ⟨v, u, q, h1, h2.more K hn hS⟩
theorem IsRd.fresh {w0 w w' : World} {F : Nat → Prop} {r : Nat} {l : List Ab} {C : Int → Int → Bool} (h : IsRd w0 F r l C w) (K : Fresh w w') : IsRd w0 F r l C w' := h.more K (fun _ _ f => f) (fun _ f => f.elim)
theorem IsRd.low {w0 w : World} {F : Nat → Prop} {r : Nat} {l : List Ab} {C : Int → Int → Bool} (h : IsRd w0 F r l C w) : ∀ k, F k → w0.heap.size ≤ k ∧ k < w.heap.size := by
  obtain ⟨v, u, q, _, h2⟩ := h
  exact h2.low
theorem IsRd.frm {w0 w : World} {F : Nat → Prop} {r : Nat} {l : List Ab} {C : Int → Int → Bool} (h : IsRd w0 F r l C w) : Fresh w0 w := by
  obtain ⟨v, u, q, _, h2⟩ := h
  exact h2.frm
/-- what an operation leaves -/
def StepR (w0 : World) (F : Nat → Prop) (r : Nat) (l : List Ab) (C : Int → Int → Bool) (w w' : World) : Prop :=
  ∃ F', IsRd w0 F' r l C w' ∧ Frm F w w' ∧ ∀ k, F' k → F k ∨ w.heap.size ≤ k
theorem StepR.still {w0 w w' : World} {F : Nat → Prop} {r : Nat} {l : List Ab} {C : Int → Int → Bool} (h : IsRd w0 F r l C w) (K : Fresh w w') : StepR w0 F r l C w w' :=
  ⟨F, h.fresh K, K.frm, fun _ e => .inl e⟩
theorem StepR.wrap {w0 w W w4 w5 : World} {F T : Nat → Prop} {r : Nat} {l : List Ab} {C : Int → Int → Bool} (h : StepR w0 F r l C W w4) (hF : ∀ k, F k → k < w.heap.size) (hw0 : w0.heap.size ≤ w.heap.size) (K0 : Fresh w W) (K1 : Frm T w4 w5) (hT : ∀ k, T k → w.heap.size ≤ k ∧ k < W.heap.size) : StepR w0 F r l C w w5 := by
  obtain ⟨F', h1, h2, h3⟩ := h
  refine ⟨F', h1.more K1 (fun k hk ht => ?_) (fun k ht => by have := (hT k ht).1; omega), ((K0.mono (fun _ _ f => f.elim)).trans' h2 (fun k _ e => e)).trans' K1 (fun k hk e => by have := (hT k e).1; omega), fun k hk => ?_⟩
  · have := hT k ht
    rcases h3 k hk with e | e
    · have := hF k e; omega
    · omega
  · rcases h3 k hk with e | e
    · exact .inl e
    · have := K0.size; exact .inr (by omega)
/-- the list is another one now -/
theorem IsR.remake {w0 w w' : World} {F : Nat → Prop} {r : Nat} {v u v' u' : Value} {q q' : List Pq} {C C' : Int → Int → Bool} (h : IsR w0 F r v u q C w) (K : Frm F w w') (hb : RBlk w' r v' u' C')
    (hs : Sl w' w0.heap.size 45 3 v' q'.length (q'.flatMap rcells)) (hd : Sl w' w0.heap.size 4 1 u' q'.length (q'.map dcell)) (ho : ∀ p ∈ q', Sl w' w0.heap.size 5 1 p.v p.a.bs.length (p.a.bs.map bv))
    (hsep : q'.Pairwise (fun x y => Sep x.v y.v)) (hv : ∀ k, v'.ownBlock = some k → F k ∨ w.heap.size ≤ k) (hu : ∀ k, u'.ownBlock = some k → F k ∨ w.heap.size ≤ k) (hf : ∀ p ∈ q', ∀ k, p.v.ownBlock = some k → F k ∨ w.heap.size ≤ k) :
    StepR w0 F r (q'.map Pq.a) C' w w' := by
  refine ⟨grow F w w', ⟨v', u', q', rfl, hb, hs, hd, ho, hsep, ?_, ?_, ?_, .inl h.fb, ?_, h.frm.trans' K (fun k hk e => by have := (h.low k e).1; omega)⟩, K, fun k hk => hk.imp (fun e => e) (fun e => e.1)⟩
  · exact fun k hk => (hv k hk).imp (fun e => e) (fun e => ⟨e, (hs.lt k hk).2⟩)
  · exact fun k hk => (hu k hk).imp (fun e => e) (fun e => ⟨e, (hd.lt k hk).2⟩)
  · exact fun p hp k hk => (hf p hp k hk).imp (fun e => e) (fun e => ⟨e, ((ho p hp).lt k hk).2⟩)
  · intro k hk
    rcases hk with e | ⟨e1, e2⟩
    · exact ⟨(h.low k e).1, Nat.lt_of_lt_of_le (h.low k e).2 K.size⟩
    · have := h.frm.size
      exact ⟨by omega, e2⟩
theorem refNode_yes (n : Int) (h1 : 1 ≤ n) (h2 : n ≤ 15) (w : World) : Calls Try.prog 70 #[.int .i64 n] w fun e w' => e = .returned (.bool true) ∧ w' = w := by
  go_enter Try.func70, Try.ntmps70
  go_wp2_with fail
  go_ret
  exact ⟨by first | rfl | simp, rfl⟩
theorem refNode_no (n : Int) (h : ¬ (1 ≤ n ∧ n ≤ 15)) (w : World) : Calls Try.prog 70 #[.int .i64 n] w fun e w' => e = .returned (.bool false) ∧ w' = w := by
  by_cases h1 : 1 ≤ n
  · have h2 : ¬ n ≤ 15 := fun e => h ⟨h1, e⟩
    clear h
    go_enter Try.func70, Try.ntmps70
    go_wp2_with fail
    go_ret
    exact ⟨by first | rfl | simp, rfl⟩
  · clear h
    go_enter Try.func70, Try.ntmps70
    go_wp2_with fail
    go_ret
    exact ⟨by first | rfl | simp, rfl⟩
set_option maxHeartbeats 4000000 in
theorem samePacket_any (w : World) (f t : Int) (A B : Option Addr) (ca cb : Nat) (bs : List UInt8) (hA : Rd w w.heap.size A (bs.map bv)) (hB : Rd w w.heap.size B (bs.map bv)) :
    Calls Try.prog 25 #[.agg #[.int .i64 f, .int .i64 t, .slice A bs.length ca], .agg #[.int .i64 f, .int .i64 t, .slice B bs.length cb]] w fun e w' => e = .returned (.bool true) ∧ Fresh w w' := by
  obtain ⟨W, hW⟩ : ∃ W, (w.alloc (.cells #[.int .i64 f, .int .i64 t, .slice A bs.length ca] 45)).alloc (.cells #[.int .i64 f, .int .i64 t, .slice B bs.length cb] 45) = W := ⟨_, rfl⟩
  have FW : Fresh w W := by rw [← hW]; exact ((Frm.refl _ w).alloc _).alloc _
  have b1 : Blk W w.heap.size 45 #[.int .i64 f, .int .i64 t, .slice A bs.length ca] := by rw [← hW]; exact (Blk.new w _ _).alloc _
  have b2 : Blk W (w.heap.size + 1) 45 #[.int .i64 f, .int .i64 t, .slice B bs.length cb] := by
    rw [← hW]
    have := Blk.new (w.alloc (.cells #[.int .i64 f, .int .i64 t, .slice A bs.length ca] 45)) 45 #[.int .i64 f, .int .i64 t, .slice B bs.length cb]
    rwa [World.size_alloc] at this
  have x0 : W.cell? ⟨w.heap.size, 0, none⟩ = some (.int .i64 f) := b1.cell 0
  have x1 : W.cell? ⟨w.heap.size, 1, none⟩ = some (.int .i64 t) := b1.cell 1
  have x2 : W.cell? ⟨w.heap.size, 2, none⟩ = some (.slice A bs.length ca) := b1.cell 2
  have y0 : W.cell? ⟨w.heap.size + 1, 0, none⟩ = some (.int .i64 f) := b2.cell 0
  have y1 : W.cell? ⟨w.heap.size + 1, 1, none⟩ = some (.int .i64 t) := b2.cell 1
  have y2 : W.cell? ⟨w.heap.size + 1, 2, none⟩ = some (.slice B bs.length cb) := b2.cell 2
  have qa : (convert 26 9 (.slice A bs.length ca)).run Try.prog W = .ok (.string (str bs)) W := Rc.conv_u ca (hA.fresh (Nat.le_refl _) FW) rfl
  have qb : (convert 26 9 (.slice B bs.length cb)).run Try.prog W = .ok (.string (str bs)) W := Rc.conv_u cb (hB.fresh (Nat.le_refl _) FW) rfl
  have HFW := Lib.hid FW
  clear FW b1 b2 hA hB
  go_enter Try.func25, Try.ntmps25
  go_wp2_with fail
  all_goals
    go_ret
    exact ⟨by first | rfl | simp, HFW.out⟩
set_option maxHeartbeats 8000000 in
theorem refCopy_any (w0 w : World) (F : Nat → Prop) (r : Nat) (l : List Ab) (C : Int → Int → Bool) (h : IsRd w0 F r l C w) (hl : l.length ≤ 1000) (hbl : ∀ p ∈ l, p.bs.length ≤ 100000) (k : Int) :
    Calls Try.prog 27 #[.pointer (some ⟨r, 0, none⟩), .int .i64 k] w fun e w' => CopyQ (pickL l k) w e w' := by
  obtain ⟨i0, hi, hz0, hz1, hz2⟩ := info_parts info_u8
  obtain ⟨W, hW⟩ : ∃ W, w.alloc (.cells #[.int .i64 0, .int .i64 0, .slice none 0 0] 45) = W := ⟨_, rfl⟩
  have FW : Fresh w W := by rw [← hW]; exact (Frm.refl _ w).alloc _
  have BP : Hid (Blk W w.heap.size 45 #[.int .i64 0, .int .i64 0, .slice none 0 0]) := Lib.hid (by rw [← hW]; exact Blk.new w _ _)
  have hsz : W.heap.size = w.heap.size + 1 := by rw [← hW, World.size_alloc]
  have HSZ := Lib.hid hsz
  obtain ⟨v, u, q, rfl, hq⟩ := h
  rw [List.length_map] at hl
  have HP := Lib.hid (hq.fresh FW)
  have HFW := Lib.hid FW
  clear hq FW hsz
  by_cases hk : 0 ≤ k ∧ k < (q.length : Int)
  · obtain ⟨n, rfl⟩ : ∃ n : Nat, k = (n : Int) := ⟨k.toNat, by omega⟩
    have hn : n < q.length := by omega
    have hni : (n : Int) < (q.length : Int) := by omega
    have hnn : ¬ (q.length : Int) ≤ (n : Int) := by omega
    have hn0 : (0 : Int) ≤ (n : Int) := by omega
    have hn1 : ¬ (n : Int) < 0 := by omega
    obtain ⟨g, o, cap, rfl, hqc, hcm, y0, y1, y2⟩ := HP.out.at_ hn
    have HO := Lib.hid (HP.out.own _ (List.getElem_mem hn))
    have hbl2 := hbl _ (List.mem_map_of_mem (List.getElem_mem hn))
    have HPK := Lib.hid (pickL_yes (l := q.map Pq.a) (k := n) (by simpa using hn))
    rw [List.getElem_map] at HPK
    have c0 : W.cell? ⟨r, 0, none⟩ = some (.slice (some ⟨g, o, none⟩) q.length cap) := HP.out.blk.cell0
    clear HP
    generalize q[n] = p at y0 y1 y2 HO HPK hbl2
    obtain ⟨⟨pf, pt, pb, pbad⟩, pv⟩ := p
    dsimp only at y0 y1 y2 HO HPK hbl2
    obtain ⟨AB, cb, rfl, hbc, hbm, _⟩ := HO.out.shape
    rw [HPK.out]
    clear hbl hk HPK
    obtain ⟨W2, hW2⟩ : ∃ W2, W.alloc (.cells #[.int .i64 pf, .int .i64 pt, .slice AB pb.length cb] 45) = W2 := ⟨_, rfl⟩
    have F2 : Fresh W W2 := by rw [← hW2]; exact (Frm.refl _ W).alloc _
    have hsz2 : W2.heap.size = w.heap.size + 2 := by rw [← hW2, World.size_alloc, HSZ.out]
    have BQ : Hid (Blk W2 W.heap.size 45 #[.int .i64 pf, .int .i64 pt, .slice AB pb.length cb]) := Lib.hid (by rw [← hW2]; exact Blk.new W _ _)
    have HF2 := Lib.hid F2
    have HB2 := Lib.hid (BP.out.frm F2 (fun f => f))
    have S0 : Hid (Sl (W2.alloc (.cells #[] 5)) W2.heap.size 5 1 (.slice (some ⟨W2.heap.size, 0, none⟩) 0 0) 0 []) := Lib.hid (sl_new W2 _ [] _ (Nat.le_refl _) (by simp [maxLen]))
    have R1 := Lib.hid (((HO.out.fresh F2).alloc (.cells #[] 5)).rd)
    have e2 : (W2.alloc (.cells #[] 5)).cell? ⟨W.heap.size, 2, none⟩ = some (.slice AB pb.length cb) := (BQ.out.alloc _).cell 2
    have HSZ2 := Lib.hid hsz2
    clear F2 hsz2
    go_enter Try.func27, Try.ntmps27
    go_wp2_with (at_builtin; refine wpList_append_sl _ rfl (.tmp 26) (.tmp 28) _ rfl W2.heap.size 5 i0 _ 1 1 Try.underlying26 hi hz0 hz1 hz2 rfl (by omega) _ _ _ rfl S0.out _ _ _ _ _ rfl (by rw [List.length_map, Nat.mul_one]) R1.out (bv_one _) (by unfold maxLen; omega) (by omega) (by simp) ?_; intro v4 w4 hs1 hf1 ha1; rw [Nat.zero_add, List.nil_append] at hs1; have F4 : Fresh W2 w4 := ((Frm.refl _ W2).alloc _).trans' hf1 (fun i hi hk => by have := own_at hk; omega); obtain ⟨A4, c4, rfl, _⟩ := hs1.shape; have b3 := HB2.out.frm F4 (fun f => f); have b4 := BQ.out.frm F4 (fun f => f); have x0 : w4.cell? ⟨w.heap.size, 0, none⟩ = some (.int .i64 0) := b3.cell 0; have x1 : w4.cell? ⟨w.heap.size, 1, none⟩ = some (.int .i64 0) := b3.cell 1; have x2 : w4.cell? ⟨w.heap.size, 2, none⟩ = some (.slice none 0 0) := b3.cell 2; have z0 : w4.frozen? ⟨w.heap.size, 0, none⟩ = false := b3.frozen 0; have z1 : w4.frozen? ⟨w.heap.size, 1, none⟩ = false := b3.frozen 1; have z2 : w4.frozen? ⟨w.heap.size, 2, none⟩ = false := b3.frozen 2; have u0 : w4.cell? ⟨W.heap.size, 0, none⟩ = some (.int .i64 pf) := b4.cell 0; have u1' : w4.cell? ⟨W.heap.size, 1, none⟩ = some (.int .i64 pt) := b4.cell 1; have u2' : w4.cell? ⟨W.heap.size, 2, none⟩ = some (.slice AB pb.length cb) := b4.cell 2; have t2 : w4.frozen? ⟨W.heap.size, 2, none⟩ = false := b4.frozen 2; have hne : ¬ (w.heap.size = W.heap.size) := (by have := HSZ.out; omega); have hne' : ¬ (W.heap.size = w.heap.size) := (by have := HSZ.out; omega); have HB3 := Lib.hid b3; have HS3 := Lib.hid hs1; have HF3 := Lib.hid ((HFW.out.trans HF2.out).trans F4); clear b3 b4 hs1 hf1 ha1 F4 y0 y1 y2)
    have hb2 := (((HB3.out.far (p := ⟨W.heap.size, 2, none⟩) hne (.slice A4 pb.length c4)).set 0 (.int .i64 pf)).set 1 (.int .i64 pt)).set 2 (.slice A4 pb.length c4)
    have F4 : Frm (fun k => k = w.heap.size ∨ k = W.heap.size) w4 ((((w4.setCell ⟨W.heap.size, 2, none⟩ (.slice A4 pb.length c4)).setCell ⟨w.heap.size, 0, none⟩ (.int .i64 pf)).setCell ⟨w.heap.size, 1, none⟩ (.int .i64 pt)).setCell ⟨w.heap.size, 2, none⟩ (.slice A4 pb.length c4)) :=
      ((((Frm.refl (fun k => k = w.heap.size ∨ k = W.heap.size) w4).setCell (p := ⟨W.heap.size, 2, none⟩) (fun _ => .inr rfl) _).setCell (p := ⟨w.heap.size, 0, none⟩) (fun _ => .inl rfl) _).setCell (p := ⟨w.heap.size, 1, none⟩) (fun _ => .inl rfl) _).setCell (p := ⟨w.heap.size, 2, none⟩) (fun _ => .inl rfl) _
    have hld := run_loadVar_row (P := Try.prog) _ (w.heap.size) 45 45 #[.int .i64 pf, .int .i64 pt, .slice A4 pb.length c4] (0, 0) _ hb2 Try.underlying45 rfl (by kernel_rfl)
    refine bodyPost_ret (v := .tuple #[.agg #[.int .i64 pf, .int .i64 pt, .slice A4 pb.length c4], .int .i64 0]) ?_ rfl ⟨_, rfl, ?_, ?_⟩
    · rw [results_cell_tmp Try.results27]
      show (((asAddr (.pointer (some ⟨w.heap.size, 0, none⟩))).run Try.prog _).andThen fun a w₁ => ((loadVar 45 a).run Try.prog w₁).andThen fun v w₂ => Result.ok (Value.tuple #[v, Value.int .i64 0]) w₂) = _
      simp only [asAddr, Sem.run_pure, Result.andThen_ok, hld]
    · exact (HS3.out.frm F4 (fun k hk e => by have := (HS3.out.lt k hk).1; have := HSZ.out; have := HSZ2.out; omega)).less (by have := HSZ2.out; omega)
    · exact HF3.out.trans' F4 (fun k hk e => by have := HSZ.out; omega)
  · rw [pickL_no (by simpa using hk)]
    obtain ⟨A, cap, rfl, hqc, hcm, _⟩ := HP.out.sl.shape
    have c0 : W.cell? ⟨r, 0, none⟩ = some (.slice A q.length cap) := HP.out.blk.cell0
    have x0 : W.cell? ⟨w.heap.size, 0, none⟩ = some (.int .i64 0) := BP.out.cell 0
    have x1 : W.cell? ⟨w.heap.size, 1, none⟩ = some (.int .i64 0) := BP.out.cell 1
    have x2 : W.cell? ⟨w.heap.size, 2, none⟩ = some (.slice none 0 0) := BP.out.cell 2
    have z0 : W.frozen? ⟨w.heap.size, 0, none⟩ = false := BP.out.frozen 0
    have z1 : W.frozen? ⟨w.heap.size, 1, none⟩ = false := BP.out.frozen 1
    have z2 : W.frozen? ⟨w.heap.size, 2, none⟩ = false := BP.out.frozen 2
    have HEND : Hid (k < 0 ∨ (¬ k < 0 ∧ (q.length : Int) ≤ k)) := Lib.hid (by omega)
    clear hk hbl
    rcases HEND.out with hh | ⟨hh, hh2⟩
    all_goals
      go_enter Try.func27, Try.ntmps27
      go_wp2_with fail
      have hb2 := ((BP.out.set 0 (.int .i64 0)).set 1 (.int .i64 0)).set 2 (.slice none 0 0)
      have F4 : Frm (fun k => k = w.heap.size) W (((W.setCell ⟨w.heap.size, 0, none⟩ (.int .i64 0)).setCell ⟨w.heap.size, 1, none⟩ (.int .i64 0)).setCell ⟨w.heap.size, 2, none⟩ (.slice none 0 0)) :=
        (((Frm.refl (fun k => k = w.heap.size) W).setCell (p := ⟨w.heap.size, 0, none⟩) (fun _ => rfl) _).setCell (p := ⟨w.heap.size, 1, none⟩) (fun _ => rfl) _).setCell (p := ⟨w.heap.size, 2, none⟩) (fun _ => rfl) _
      have hld := run_loadVar_row (P := Try.prog) _ (w.heap.size) 45 45 #[.int .i64 0, .int .i64 0, .slice none 0 0] (0, 0) _ hb2 Try.underlying45 rfl (by kernel_rfl)
      refine bodyPost_ret (v := .tuple #[.agg #[.int .i64 0, .int .i64 0, .slice none 0 0], .int .i64 2]) ?_ rfl ⟨_, rfl, Sl.nil _ _ _ _, ?_⟩
      · rw [results_cell_tmp Try.results27]
        show (((asAddr (.pointer (some ⟨w.heap.size, 0, none⟩))).run Try.prog _).andThen fun a w₁ => ((loadVar 45 a).run Try.prog w₁).andThen fun v w₂ => Result.ok (Value.tuple #[v, Value.int .i64 2]) w₂) = _
        simp only [asAddr, Sem.run_pure, Result.andThen_ok, hld]
      · exact HFW.out.trans' F4 (fun k hk e => by omega)
end Go.Proofs.Ytlceembcehokoaa
namespace Go.Proofs.Ytlceembcehokoaa
open Go.RowKit
set_option maxRecDepth 100000

theorem rcells_set : ∀ (l : List Pq) (n : Nat) (h : n < l.length) (p : Pq), p.a.f = l[n].a.f → p.a.t = l[n].a.t → p.v = l[n].v → (l.set n p).flatMap rcells = l.flatMap rcells
  | x :: l, 0, _, p, e1, e2, e3 => by
    simp only [List.getElem_cons_zero] at e1 e2 e3
    rw [List.set_cons_zero, List.flatMap_cons, List.flatMap_cons]
    unfold rcells
    rw [e1, e2, e3]
  | x :: l, n + 1, h, p, e1, e2, e3 => by
    simp only [List.getElem_cons_succ] at e1 e2 e3
    rw [List.set_cons_succ, List.flatMap_cons, List.flatMap_cons, rcells_set l n (by simpa using h) p e1 e2 e3]
theorem refSpoil_put {w0 w : World} {F : Nat → Prop} {r : Nat} {v u : Value} {q : List Pq} {C : Int → Int → Bool} (h : IsR w0 F r v u q C w) {n : Nat} (hn : n < q.length) {g o cap : Nat} (hu : u = .slice (some ⟨g, o, none⟩) q.length cap)
    {h' oo cb : Nat} {j : Nat} (hpv : q[n].v = .slice (some ⟨h', oo, none⟩) q[n].a.bs.length cb) (hj : j < q[n].a.bs.length) (t : UInt8) {y : UInt8} (hy : y = q[n].a.bs[j] ^^^ t) :
    StepR w0 F r ((q.map Pq.a).set n (spoilA q[n].a j t)) C w ((w.setCell ⟨h', oo + j, none⟩ (.int .u8 (y.toNat : Int))).setCell ⟨g, o + n, none⟩ (.bool true)) := by
  obtain ⟨p', hp'⟩ : ∃ p' : Pq, p' = ⟨spoilA q[n].a j t, q[n].v⟩ := ⟨_, rfl⟩
  have hbs' : p'.a.bs = q[n].a.bs.set j y := by rw [hp', hy]; unfold spoilA; simp [hj]
  have hv' : p'.v = q[n].v := by rw [hp']
  obtain ⟨w1, hw1⟩ : ∃ w1, w.setCell ⟨h', oo + j, none⟩ (.int .u8 (y.toNat : Int)) = w1 := ⟨_, rfl⟩
  obtain ⟨w2, hw2⟩ : ∃ w2, w1.setCell ⟨g, o + n, none⟩ (.bool true) = w2 := ⟨_, rfl⟩
  have F1 : Frm (fun k => k = h') w w1 := by rw [← hw1]; exact (Frm.refl (fun k => k = h') w).setCell (p := ⟨h', oo + j, none⟩) (fun _ => rfl) _
  have F2 : Frm (fun k => k = g) w1 w2 := by rw [← hw2]; exact (Frm.refl (fun k => k = g) w1).setCell (p := ⟨g, o + n, none⟩) (fun _ => rfl) _
  have hmemn := List.getElem_mem hn
  have own := h.own _ hmemn
  have hob : q[n].v.ownBlock = some h' := by rw [hpv]; rfl
  have hgb : u.ownBlock = some g := by rw [hu]; rfl
  have hbh : r ≠ h' := fun e => h.blk.apart own (by decide) (by rw [hob, e])
  have hbg : r ≠ g := fun e => h.blk.apart h.bad (by decide) (by rw [hgb, e])
  have hgh : g ≠ h' := fun e => Rc.sl_apart own h.bad (by decide) h' hob (by rw [hgb, e])
  have slF : ∀ {p : Pq}, p ∈ q → p.v.ownBlock ≠ some g := fun {p} hp e => Rc.sl_apart (h.own p hp) h.bad (by decide) g e hgb
  have hs2 : Sl w2 w0.heap.size 45 3 v (q.set n p').length ((q.set n p').flatMap rcells) := by
    rw [List.length_set, rcells_set q n hn p' (by rw [hp']; rfl) (by rw [hp']; rfl) hv']
    exact (h.sl.frm F1 (fun k hk e => by subst e; exact Rc.sl_apart own h.sl (by decide) _ hob hk)).frm F2 (fun k hk e => by subst e; exact Rc.sl_apart h.bad h.sl (by decide) _ hgb hk)
  have hd1 : Sl w1 w0.heap.size 4 1 u q.length (q.map dcell) := h.bad.frm F1 (fun k hk e => by subst e; rw [hgb] at hk; exact hgh (Option.some.inj hk))
  have hd2 : Sl w2 w0.heap.size 4 1 u (q.set n p').length ((q.set n p').map dcell) := by
    rw [List.length_set, ← hw2, List.map_set, show dcell p' = .bool true by rw [hp']; rfl]
    rw [hu] at hd1 ⊢
    exact hd1.store (j := n) (by rw [List.length_map]; exact hn) (.bool true)
  have ho : ∀ p ∈ q.set n p', Sl w2 w0.heap.size 5 1 p.v p.a.bs.length (p.a.bs.map bv) := by
    intro p hp
    rcases mem_set_at hp with ⟨rfl, _⟩ | ⟨i, hi, hne, rfl⟩
    · have o1 : Sl w1 w0.heap.size 5 1 p.v p.a.bs.length (p.a.bs.map bv) := by
        rw [hv', hbs', List.length_set, ← bs_set, ← hw1]
        rw [hpv] at own ⊢
        exact own.store (j := j) (by rw [List.length_map]; exact hj) _
      exact o1.frm F2 (fun k hk e => by subst e; rw [hv'] at hk; exact slF hmemn hk)
    · have hmi := List.getElem_mem hi
      have o1 := (h.own _ hmi).frm F1 (fun k hk e => by subst e; exact sep_at h.sep hi hn hne k hk hob)
      exact o1.frm F2 (fun k hk e => by subst e; exact slF hmi hk)
  have hK : Frm F w w2 := ((F1.mono (T := F) (fun k _ e => by subst e; exact h.fo _ hmemn _ hob)).trans' F2 (fun k _ e => by subst e; exact h.fu _ hgb))
  rw [hw1, hw2]
  have := h.remake hK ((h.blk.frm F1 hbh).frm F2 hbg) hs2 hd2 ho (sep_set h.sep hn hv') (fun k hk => .inl (h.fv k hk)) (fun k hk => .inl (h.fu k hk)) (by
    intro p hp k hk
    rcases mem_set_at hp with ⟨rfl, _⟩ | ⟨i, hi, hne, rfl⟩
    · exact .inl (h.fo _ hmemn k (by rw [← hv']; exact hk))
    · exact .inl (h.fo _ (List.getElem_mem hi) k hk))
  rw [List.map_set, hp'] at this
  exact this
def RSpoil (w0 : World) (F : Nat → Prop) (r : Nat) (l : List Ab) (k at_ : Int) (t : UInt8) (C : Int → Int → Bool) (w : World) (e : Ending) (w' : World) : Prop :=
  e = .returned (.int .i64 (spoilE l k at_)) ∧ StepR w0 F r (spoilL l k at_ t) C w w'
set_option maxHeartbeats 8000000 in
theorem refSpoil_any (w0 w : World) (F : Nat → Prop) (r : Nat) (l : List Ab) (C : Int → Int → Bool) (h : IsRd w0 F r l C w) (hl : l.length ≤ 1000) (hbl : ∀ p ∈ l, p.bs.length ≤ 100000) (k at_ : Int) (t : UInt8) :
    Calls Try.prog 31 #[.pointer (some ⟨r, 0, none⟩), .int .i64 k, .int .i64 at_, bv t] w fun e w' => RSpoil w0 F r l k at_ t C w e w' := by
  have HI := Lib.hid h
  obtain ⟨v, u, q, rfl, hq⟩ := h
  rw [List.length_map] at hl
  unfold bv RSpoil
  by_cases hk : 0 ≤ k ∧ k < (q.length : Int)
  · obtain ⟨n, rfl⟩ : ∃ n : Nat, k = (n : Int) := ⟨k.toNat, by omega⟩
    have hn : n < q.length := by omega
    have hpk : pickL (q.map Pq.a) (n : Int) = some q[n].a := by rw [pickL_yes (by simpa using hn), List.getElem_map]
    have hbn := hbl _ (List.mem_map_of_mem (List.getElem_mem hn))
    obtain ⟨g, o, cap, hv, hqc, hcm, y0, y1, y2⟩ := hq.at_ hn
    have hown := hq.own _ (List.getElem_mem hn)
    obtain ⟨AB, cb, hpv, hbc, hbm, _⟩ := hown.shape
    rw [hpv] at y2
    obtain ⟨g2, o2, cap2, hu, _, _, hq2, hcm2⟩ := hq.bad.head (by omega)
    have y3 : w.cell? ⟨g2, o2 + n, none⟩ = some (.bool q[n].a.bad) := by
      have hb := hq.bad
      rw [hu] at hb
      rw [hb.cell (j := n) (by rw [List.length_map]; exact hn), List.getElem_map]
      rfl
    have c0 : w.cell? ⟨r, 0, none⟩ = some (.slice (some ⟨g, o, none⟩) q.length cap) := by rw [← hv]; exact hq.blk.cell0
    have c1 : w.cell? ⟨r, 1, none⟩ = some (.slice (some ⟨g2, o2, none⟩) q.length cap2) := by rw [← hu]; exact hq.blk.cell1
    have hni : (n : Int) < (q.length : Int) := by omega
    have hnn : ¬ (q.length : Int) ≤ (n : Int) := by omega
    have hn0 : (0 : Int) ≤ (n : Int) := by omega
    have hn1 : ¬ (n : Int) < 0 := by omega
    by_cases hat : 0 ≤ at_ ∧ at_ < (q[n].a.bs.length : Int)
    · obtain ⟨j, rfl⟩ : ∃ j : Nat, at_ = (j : Int) := ⟨at_.toNat, by omega⟩
      have hj : j < q[n].a.bs.length := by omega
      have hji : (j : Int) < (q[n].a.bs.length : Int) := by omega
      have hjn : ¬ (q[n].a.bs.length : Int) ≤ (j : Int) := by omega
      have hj0 : (0 : Int) ≤ (j : Int) := by omega
      have hj1 : ¬ (j : Int) < 0 := by omega
      obtain ⟨h', oo, rfl⟩ : ∃ h' oo, AB = some ⟨h', oo, none⟩ := by
        obtain ⟨g1, o1, c1, e, _⟩ := hown.head (by omega)
        rw [hpv] at e
        injection e with e1
        exact ⟨g1, o1, e1⟩
      cases hbad : q[n].a.bad with
      | true =>
        have HE : Hid (spoilE (q.map Pq.a) (n : Int) (j : Int) = 7 ∧ spoilL (q.map Pq.a) (n : Int) (j : Int) t = q.map Pq.a) := Lib.hid (by
          unfold spoilE spoilL
          rw [hpk]
          simp only [hbad, if_pos hat, if_true, Bool.true_eq_false, and_false, if_false]
          try trivial)
        rw [HE.out.1, HE.out.2]
        rw [hbad] at y3
        clear hbl hk hpk hv hu hq hown hpv hat hbad HE
        generalize q[n] = p at *
        generalize p.a.bs.length = bl at *
        generalize q.length = ql at *
        go_enter Try.func31, Try.ntmps31
        go_wp2_with fail
        go_ret
        exact ⟨rfl, .still HI.out (Frm.refl _ _)⟩
      | false =>
        have HE : Hid (spoilE (q.map Pq.a) (n : Int) (j : Int) = 0 ∧ spoilL (q.map Pq.a) (n : Int) (j : Int) t = (q.map Pq.a).set n (spoilA q[n].a j t)) := Lib.hid (by
          unfold spoilE spoilL
          rw [hpk]
          simp only [hbad, if_pos hat, Bool.false_eq_true, if_false, and_true, Int.toNat_natCast]
          try trivial)
        rw [HE.out.1, HE.out.2]
        rw [hbad] at y3
        have hcell : w.cell? ⟨h', oo + j, none⟩ = some (.int .u8 (q[n].a.bs[j].toNat : Int)) := by
          have h1 := hown
          rw [hpv] at h1
          rw [h1.cell (j := j) (by rw [List.length_map]; exact hj), List.getElem_map]
          rfl
        have hx := xor_u8 q[n].a.bs[j] t
        obtain ⟨w1, hw1⟩ : ∃ w1, w.drew = w1 := ⟨_, rfl⟩
        have hq1 : IsR w0 F r v u q C w1 := by rw [← hw1]; exact hq.fresh ((Frm.refl _ w).drew)
        have HK1 : Hid (Fresh w w1) := Lib.hid (by rw [← hw1]; exact (Frm.refl _ w).drew)
        have HP := Lib.hid (refSpoil_put hq1 hn hu hpv hj t (y := q[n].a.bs[j] ^^^ t) rfl)
        have HLOW := Lib.hid hq.low
        generalize q[n].a.bs[j] ^^^ t = y at *
        generalize q[n].a.bs[j] = x at *
        have zf : ∀ i, w1.frozen? ⟨h', i, none⟩ = false := fun i => by have h1 := hq1.own _ (List.getElem_mem hn); rw [hpv] at h1; exact h1.frozen i
        have zg : ∀ i, w1.frozen? ⟨g2, i, none⟩ = false := fun i => by have h1 := hq1.bad; rw [hu] at h1; exact h1.frozen i
        have hgh : g2 ≠ h' := fun e => Rc.sl_apart hown hq.bad (by decide) h' (by rw [hpv]; rfl) (by rw [hu, e]; rfl)
        have hbh : r ≠ h' := fun e => hq.blk.apart hown (by decide) (by rw [hpv, e]; rfl)
        have d0 : w1.cell? ⟨r, 0, none⟩ = some (.slice (some ⟨g, o, none⟩) q.length cap) := by rw [← hw1]; exact c0
        have d1 : w1.cell? ⟨r, 1, none⟩ = some (.slice (some ⟨g2, o2, none⟩) q.length cap2) := by rw [← hw1]; exact c1
        have d2 : w1.cell? ⟨g, o + n * 3 + 2, none⟩ = some (.slice (some ⟨h', oo, none⟩) q[n].a.bs.length cb) := by rw [← hw1]; exact y2
        have d3 : w1.cell? ⟨g2, o2 + n, none⟩ = some (.bool false) := by rw [← hw1]; exact y3
        have d4 : w1.cell? ⟨h', oo + j, none⟩ = some (.int .u8 (x.toNat : Int)) := by rw [← hw1]; exact hcell
        clear hbl hk hpk hv hu hq hq1 hown hpv hat hbad HE
        generalize spoilA q[n].a j t = pa at *
        generalize q[n] = p at *
        generalize p.a.bs.length = bl at *
        obtain ⟨ql, hql⟩ : ∃ ql, q.length = ql := ⟨_, rfl⟩
        rw [hql] at *
        clear hql
        go_enter Try.func31, Try.ntmps31
        go_wp2_with fail
        go_still_tail 23, (by kernel_rfl)
        try rw [hw1]
        go_wp2_with fail
        go_ret
        refine ⟨rfl, ?_⟩
        obtain ⟨F', p1, p2, p3⟩ := HP.out
        exact ⟨F', p1, (HK1.out.mono (fun _ _ f => f.elim)).trans' p2 (fun k _ e => e), fun k hk => (p3 k hk).imp (fun e => e) (fun e => by have := HK1.out.size; omega)⟩
    · have HE : Hid (spoilE (q.map Pq.a) (n : Int) at_ = 1 ∧ spoilL (q.map Pq.a) (n : Int) at_ t = q.map Pq.a) := Lib.hid (by
        unfold spoilE spoilL
        rw [hpk]
        simp only [if_neg hat, if_neg (fun e : (_ ∧ _) => hat e.1)]
        try trivial)
      rw [HE.out.1, HE.out.2]
      have HEND : Hid (at_ < 0 ∨ (¬ at_ < 0 ∧ (q[n].a.bs.length : Int) ≤ at_)) := Lib.hid (by omega)
      clear hbl hk hpk hv hu hq hown hpv hat HE y3
      generalize q[n] = p at *
      generalize p.a.bs.length = bl at *
      generalize q.length = ql at *
      rcases HEND.out with hh | ⟨hh, hh2⟩
      all_goals
        go_enter Try.func31, Try.ntmps31
        go_wp2_with fail
        go_ret
        exact ⟨rfl, .still HI.out (Frm.refl _ _)⟩
  · have HE : Hid (spoilE (q.map Pq.a) k at_ = 2 ∧ spoilL (q.map Pq.a) k at_ t = q.map Pq.a) := Lib.hid (by
      unfold spoilE spoilL
      rw [pickL_no (by simpa using hk)]
      exact ⟨rfl, rfl⟩)
    rw [HE.out.1, HE.out.2]
    obtain ⟨A, cap, rfl, _, _, _⟩ := hq.sl.shape
    have hcw : w.cell? ⟨r, 0, none⟩ = some (.slice A q.length cap) := hq.blk.cell0
    have HEND : Hid (k < 0 ∨ (¬ k < 0 ∧ (q.length : Int) ≤ k)) := Lib.hid (by omega)
    clear hq hk hbl HE
    rcases HEND.out with hh | ⟨hh, hh2⟩
    all_goals
      go_enter Try.func31, Try.ntmps31
      go_wp2_with fail
      go_ret
      exact ⟨rfl, .still HI.out (Frm.refl _ _)⟩
/-! ### Cut, healed -/
theorem RBlk.setC {w : World} {r : Nat} {v u : Value} {C : Int → Int → Bool} (h : RBlk w r v u C) {x y : Nat} (hx : x ≤ 15) (hy : y ≤ 15) (is : Bool) :
    RBlk ((w.setCell ⟨r, 2 + x * 16 + y, none⟩ (.bool is)).setCell ⟨r, 2 + y * 16 + x, none⟩ (.bool is)) r v u (setC C x y is) := by
  obtain ⟨cs, h1, h2, h3, h4, h5⟩ := h
  refine ⟨_, (h1.set _ _).set _ _, ?_, ?_, by simp [h4], fun a b ha hb => ?_⟩
  · rw [Array.getElem?_setIfInBounds, if_neg (by omega), Array.getElem?_setIfInBounds, if_neg (by omega)]
    exact h2
  · rw [Array.getElem?_setIfInBounds, if_neg (by omega), Array.getElem?_setIfInBounds, if_neg (by omega)]
    exact h3
  · unfold Go.Proofs.Ytlceembcehokoaa.setC
    rw [Array.getElem?_setIfInBounds]
    by_cases e1 : 2 + y * 16 + x = 2 + a * 16 + b
    · rw [if_pos e1, if_pos (by rw [Array.size_setIfInBounds, h4]; omega), if_pos (.inr ⟨by omega, by omega⟩)]
    · rw [if_neg e1, Array.getElem?_setIfInBounds]
      by_cases e2 : 2 + x * 16 + y = 2 + a * 16 + b
      · rw [if_pos e2, if_pos (by omega), if_pos (.inl ⟨by omega, by omega⟩)]
      · rw [if_neg e2, if_neg (by omega)]
        exact h5 a b ha hb
def RCut (w0 : World) (F : Nat → Prop) (r : Nat) (l : List Ab) (C : Int → Int → Bool) (x y : Int) (v : Bool) (w : World) (e : Ending) (w' : World) : Prop :=
  e = .returned (.int .i64 (if okPair x y = true then 0 else 1)) ∧ StepR w0 F r l (if okPair x y = true then setC C x y v else C) w w'
set_option maxHeartbeats 8000000 in
theorem refCut_any (w0 w : World) (F : Nat → Prop) (r : Nat) (l : List Ab) (C : Int → Int → Bool) (h : IsRd w0 F r l C w) (x y : Int) (is : Bool) :
    Calls Try.prog 32 #[.pointer (some ⟨r, 0, none⟩), .int .i64 x, .int .i64 y, .bool is] w fun e w' => RCut w0 F r l C x y is w e w' := by
  unfold RCut
  by_cases hok : 1 ≤ x ∧ x ≤ 15 ∧ 1 ≤ y ∧ y ≤ 15 ∧ x ≠ y
  · have hokb : okPair x y = true := by unfold okPair; simpa using hok
    simp only [if_pos hokb]
    clear hokb
    obtain ⟨a1, a2, a3, a4, a5⟩ := hok
    obtain ⟨v, u, q, rfl, hq⟩ := h
    obtain ⟨a, rfl⟩ : ∃ a : Nat, x = (a : Int) := ⟨x.toNat, by omega⟩
    obtain ⟨b, rfl⟩ : ∃ b : Nat, y = (b : Int) := ⟨y.toNat, by omega⟩
    have z : ∀ i, w.frozen? ⟨r, i, none⟩ = false := fun i => hq.blk.frozen i
    have c1 : w.cell? ⟨r, 2 + a * 16 + b, none⟩ = some (.bool (C a b)) := hq.blk.cut (by omega) (by omega)
    have c2 : w.cell? ⟨r, 2 + b * 16 + a, none⟩ = some (.bool (C b a)) := hq.blk.cut (by omega) (by omega)
    have HFIN : Hid (StepR w0 F r (q.map Pq.a) (setC C a b is) w ((w.setCell ⟨r, 2 + a * 16 + b, none⟩ (.bool is)).setCell ⟨r, 2 + b * 16 + a, none⟩ (.bool is))) := Lib.hid (by
      have K : Frm (fun k => k = r) w ((w.setCell ⟨r, 2 + a * 16 + b, none⟩ (.bool is)).setCell ⟨r, 2 + b * 16 + a, none⟩ (.bool is)) := ((Frm.refl (fun k => k = r) w).setCell (p := ⟨r, 2 + a * 16 + b, none⟩) (fun _ => rfl) _).setCell (p := ⟨r, 2 + b * 16 + a, none⟩) (fun _ => rfl) _
      exact hq.remake (K.mono (fun k _ e => by subst e; exact hq.fb)) (hq.blk.setC (by omega) (by omega) is) (hq.sl.frm K (fun k hk e => by subst e; exact hq.blk.apart hq.sl (by decide) hk)) (hq.bad.frm K (fun k hk e => by subst e; exact hq.blk.apart hq.bad (by decide) hk)) (fun p hp => (hq.own p hp).frm K (fun k hk e => by subst e; exact hq.blk.apart (hq.own p hp) (by decide) hk)) hq.sep (fun k hk => .inl (hq.fv k hk)) (fun k hk => .inl (hq.fu k hk)) (fun p hp k hk => .inl (hq.fo p hp k hk)))
    have b1 : (0 : Int) ≤ (a : Int) := by omega
    have b2 : (a : Int) < 16 := by omega
    have b3 : (0 : Int) ≤ (b : Int) := by omega
    have b4 : (b : Int) < 16 := by omega
    have b5 : a < 16 := by omega
    have b6 : b < 16 := by omega
    have b7 : ¬ (a : Int) = (b : Int) := by omega
    have b8 : ¬ a = b := by omega
    clear hq
    go_enter Try.func32, Try.ntmps32
    go_wp2_with fail
    refine (refNode_yes a a1 a2 _).mono ?_
    rintro e w' ⟨rfl, hw'⟩
    rw [hw']
    clear hw' w'
    go_wp2_with fail
    refine (refNode_yes b a3 a4 _).mono ?_
    rintro e w' ⟨rfl, hw'⟩
    rw [hw']
    clear hw' w'
    go_wp2_with fail
    go_ret
    exact ⟨rfl, HFIN.out⟩
  · have hokb : okPair x y = false := by unfold okPair; simpa using hok
    simp only [hokb, Bool.false_eq_true, if_false]
    have HI := Lib.hid h
    clear h hokb
    by_cases h1 : 1 ≤ x ∧ x ≤ 15
    · by_cases h2 : 1 ≤ y ∧ y ≤ 15
      · obtain rfl : x = y := by
          by_cases e : x = y
          · exact e
          · exact absurd ⟨h1.1, h1.2, h2.1, h2.2, e⟩ hok
        go_enter Try.func32, Try.ntmps32
        go_wp2_with fail
        refine (refNode_yes x h1.1 h1.2 _).mono ?_
        rintro e w' ⟨rfl, rfl⟩
        go_wp2_with fail
        refine (refNode_yes x h1.1 h1.2 _).mono ?_
        rintro e w' ⟨rfl, rfl⟩
        go_wp2_with fail
        go_ret
        exact ⟨rfl, .still HI.out (Frm.refl _ _)⟩
      · go_enter Try.func32, Try.ntmps32
        go_wp2_with fail
        refine (refNode_yes x h1.1 h1.2 _).mono ?_
        rintro e w' ⟨rfl, rfl⟩
        go_wp2_with fail
        refine (refNode_no y h2 _).mono ?_
        rintro e w' ⟨rfl, rfl⟩
        go_wp2_with fail
        go_ret
        exact ⟨rfl, .still HI.out (Frm.refl _ _)⟩
    · go_enter Try.func32, Try.ntmps32
      go_wp2_with fail
      refine (refNode_no x h1 _).mono ?_
      rintro e w' ⟨rfl, rfl⟩
      by_cases h2 : 1 ≤ y ∧ y ≤ 15
      · go_wp2_with fail
        refine (refNode_yes y h2.1 h2.2 _).mono ?_
        rintro e w' ⟨rfl, rfl⟩
        go_wp2_with fail
        go_ret
        exact ⟨rfl, .still HI.out (Frm.refl _ _)⟩
      · go_wp2_with fail
        refine (refNode_no y h2 _).mono ?_
        rintro e w' ⟨rfl, rfl⟩
        go_wp2_with fail
        go_ret
        exact ⟨rfl, .still HI.out (Frm.refl _ _)⟩
end Go.Proofs.Ytlceembcehokoaa

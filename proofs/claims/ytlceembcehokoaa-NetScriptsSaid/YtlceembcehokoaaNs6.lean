/- Net26, Net27. (Put together by merge28.py.) -/
import Derived.Test.YtlceembcehokoaaNs3
import Derived.Test.YtlceembcehokoaaNs2
import Derived.Test.YtlceembcehokoaaNs1
import Derived.Test.YtlceembcehokoaaNs5
import Derived.Deep.CutBlock
namespace Go.Proofs.Ytlceembcehokoaa
open Go.RowKit
set_option maxRecDepth 100000

structure NStp where
  op : Int
  x : Int
  t : Int
  A : Option Addr
  c : Nat
  bs : List UInt8
  k : Int
  at_ : Int
  tn : UInt8
def ncells (s : NStp) : List Value := [.int .i64 s.op, .int .i64 s.x, .int .i64 s.t, .slice s.A s.bs.length s.c, .int .i64 s.k, .int .i64 s.at_, bv s.tn]
theorem ncells_len (l : List NStp) : (l.flatMap ncells).length = l.length * 7 := flatMap_len l (fun _ _ => rfl)
theorem ncells_get : ∀ (l : List NStp) (i : Nat) (h : i < l.length) (j : Nat), j < 7 → (l.flatMap ncells)[i * 7 + j]? = (ncells l[i])[j]?
  | x :: l, 0, _, j, hj => by
    rw [List.flatMap_cons, Nat.zero_mul, Nat.zero_add, List.getElem?_append_left (by exact hj)]
    rfl
  | x :: l, i + 1, h, j, hj => by
    rw [List.flatMap_cons, List.getElem?_append_right (by show 7 ≤ _; omega), show (ncells x).length = 7 from rfl, show (i + 1) * 7 + j - 7 = i * 7 + j by omega]
    exact ncells_get l i (by simpa using h) j hj
def NSeven (w : World) (b o : Nat) (s : NStp) : Prop :=
  w.cell? ⟨b, o, none⟩ = some (.int .i64 s.op) ∧ w.cell? ⟨b, o + 1, none⟩ = some (.int .i64 s.x) ∧ w.cell? ⟨b, o + 2, none⟩ = some (.int .i64 s.t) ∧ w.cell? ⟨b, o + 3, none⟩ = some (.slice s.A s.bs.length s.c) ∧
  w.cell? ⟨b, o + 4, none⟩ = some (.int .i64 s.k) ∧ w.cell? ⟨b, o + 5, none⟩ = some (.int .i64 s.at_) ∧ w.cell? ⟨b, o + 6, none⟩ = some (bv s.tn)
theorem nseven_at {w : World} {B : Nat} {A : Option Addr} {l : List NStp} (h : Rd w B A (l.flatMap ncells)) {i : Nat} (hi : i < l.length) :
    ∃ b o, A = some ⟨b, o, none⟩ ∧ b < B ∧ NSeven w b (o + i * 7) l[i] := by
  have hne : l.flatMap ncells ≠ [] := fun e => by
    have := ncells_len l
    rw [e] at this
    simp at this
    omega
  obtain ⟨b, o, hA, hb, hc⟩ := h hne
  have g := fun j (hj : j < 7) => ncells_get l i hi j hj
  refine ⟨b, o, hA, hb, ?_, ?_, ?_, ?_, ?_, ?_, ?_⟩
  · exact hc _ _ (g 0 (by omega))
  · rw [Nat.add_assoc]; exact hc _ _ (g 1 (by omega))
  · rw [Nat.add_assoc]; exact hc _ _ (g 2 (by omega))
  · rw [Nat.add_assoc]; exact hc _ _ (g 3 (by omega))
  · rw [Nat.add_assoc]; exact hc _ _ (g 4 (by omega))
  · rw [Nat.add_assoc]; exact hc _ _ (g 5 (by omega))
  · rw [Nat.add_assoc]; exact hc _ _ (g 6 (by omega))
/-- as the arguments are read -/
abbrev NRaw : Type := Int × (Int × Int × (Option Addr × Nat × List Int)) × Int × Int × Int
def ni1f : Int → List Value := fun n => [.int .i64 n]
def ni1q : Int → Prop := fun n => (Lit.int .i64 n).wf = true
def npf : (Int × Int × (Option Addr × Nat × List Int)) → List Value := fun a => ni1f a.1 ++ (ni1f a.2.1 ++ [sv a.2.2])
def npq (w : World) : (Int × Int × (Option Addr × Nat × List Int)) → Prop := fun a => ni1q a.1 ∧ ni1q a.2.1 ∧ IsL w 1 Rc.u8f Rc.u8q a.2.2
def nf7 : NRaw → List Value := fun a => ni1f a.1 ++ (npf a.2.1 ++ (ni1f a.2.2.1 ++ (ni1f a.2.2.2.1 ++ Rc.u8f a.2.2.2.2)))
def nq7 (w : World) : NRaw → Prop := fun a => ni1q a.1 ∧ npq w a.2.1 ∧ ni1q a.2.2.1 ∧ ni1q a.2.2.2.1 ∧ Rc.u8q a.2.2.2.2
/-- what is known of a step that came in -/
structure NOk (w : World) (s : NStp) : Prop where
  wx : (Lit.int .i64 s.x).wf = true
  wt : (Lit.int .i64 s.t).wf = true
  wk : (Lit.int .i64 s.k).wf = true
  wa : (Lit.int .i64 s.at_).wf = true
  le : s.bs.length ≤ s.c
  most : s.c ≤ maxLen
  rd : Rd w w.heap.size s.A (s.bs.map bv)
theorem to_byte {n : Int} (h : Rc.u8q n) : ∃ t : UInt8, n = (t.toNat : Int) := by
  obtain ⟨bs, e⟩ := bytes_of_ints [n] (fun x hx => by rw [List.mem_singleton] at hx; subst hx; exact h)
  match bs, e with
  | [t], e => exact ⟨t, by simpa using e⟩
theorem to_steps (w : World) : ∀ l : List NRaw, (∀ x ∈ l, nq7 w x) → ∃ ss : List NStp, ss.length = l.length ∧ l.flatMap nf7 = ss.flatMap ncells ∧ ∀ s ∈ ss, NOk w s := by
  intro l
  induction l with
  | nil => intro _; exact ⟨[], rfl, rfl, fun s hs => by cases hs⟩
  | cons a r ih =>
    intro h
    obtain ⟨ss, h1, h2, h3⟩ := ih (fun x hx => h x (by simp [hx]))
    obtain ⟨q1, ⟨q2, q3, q4⟩, q5, q6, q7⟩ := h a (by simp)
    obtain ⟨⟨A, c, bs⟩, hb1, hb2⟩ := Rc.to_bs q4
    obtain ⟨t, ht⟩ := to_byte q7
    refine ⟨⟨a.1, a.2.1.1, a.2.1.2.1, A, c, bs, a.2.2.1, a.2.2.2.1, t⟩ :: ss, by simp [h1], ?_, fun s hs => ?_⟩
    · rw [List.flatMap_cons, List.flatMap_cons, h2]
      unfold nf7 npf
      rw [hb1, ht]
      rfl
    · rcases List.mem_cons.1 hs with rfl | hs
      · exact ⟨q2, q3, q5, q6, hb2.le, hb2.most, hb2.rd⟩
      · exact h3 s hs
/-! ### Both nets -/
structure Two (w0 : World) (F G : Nat → Prop) (b r : Nat) (l : List Ab) (c : Nat) (C : Int → Int → Bool) (w : World) : Prop where
  p : IsS w0 F b l c C w
  d : IsRd w0 G r l C w
  ap : ∀ k, F k → ¬ G k
theorem Two.fresh {w0 w w' : World} {F G : Nat → Prop} {b r c : Nat} {l : List Ab} {C : Int → Int → Bool} (h : Two w0 F G b r l c C w) (K : Fresh w w') : Two w0 F G b r l c C w' := ⟨h.p.fresh K, h.d.fresh K, h.ap⟩
/-- behind the program's operation -/
theorem Two.mid {w0 w w5 : World} {F G : Nat → Prop} {b r c c' : Nat} {l l' : List Ab} {C C' : Int → Int → Bool} (h : Two w0 F G b r l c C w) (s : StepS w0 F b l' c' C' w w5) : IsRd w0 G r l C w5 := by
  obtain ⟨F', _, h2, _⟩ := s
  exact h.d.more h2 (fun k hk hf => h.ap k hf hk) (fun k hk => (h.p.low k hk).1)
/-- behind both -/
theorem Two.both {w0 w w5 w6 w7 : World} {F G : Nat → Prop} {b r c c' : Nat} {l l' : List Ab} {C C' : Int → Int → Bool} (h : Two w0 F G b r l c C w) (s : StepS w0 F b l' c' C' w w5) (K : Fresh w5 w6) (d : StepR w0 G r l' C' w6 w7) :
    ∃ F' G', Two w0 F' G' b r l' c' C' w7 := by
  obtain ⟨F', h1, h2, h3⟩ := s
  obtain ⟨G', d1, d2, d3⟩ := d
  have hl := h1.low
  have hg := h.d.low
  have hs := h2.size
  have hk := K.size
  refine ⟨F', G', (h1.fresh K).more d2 (fun k hf hgk => ?_) (fun k hk => (hg k hk).1), d1, fun k hf hgk => ?_⟩
  · rcases h3 k hf with e | e
    · exact h.ap k e hgk
    · have := (hg k hgk).2; omega
  · rcases d3 k hgk with e | e
    · rcases h3 k hf with e2 | e2
      · exact h.ap k e2 e
      · have := (hg k e).2; omega
    · have := (hl k hf).2; omega
theorem IsRd.head {w0 w : World} {G : Nat → Prop} {r : Nat} {l : List Ab} {C : Int → Int → Bool} (h : IsRd w0 G r l C w) : ∃ A cap, w.cell? ⟨r, 0, none⟩ = some (.slice A l.length cap) := by
  obtain ⟨v, u, q, rfl, hq⟩ := h
  obtain ⟨A, cap, rfl, _⟩ := hq.sl.shape
  exact ⟨A, cap, by rw [List.length_map]; exact hq.blk.cell0⟩
/-- what holds between two steps -/
def Inv (w : World) (b r i : Nat) (wr : World) : Prop := ∃ F G l c C, Two w F G b r l c C wr ∧ c ≤ 2 * i ∧ l.length ≤ i ∧ ∀ p ∈ l, p.bs.length ≤ 70000
theorem dropL_bound {l : List Ab} {k : Int} {i : Nat} (h1 : l.length ≤ i) (h2 : ∀ p ∈ l, p.bs.length ≤ 70000) : (dropL l k).length ≤ i + 1 ∧ ∀ p ∈ dropL l k, p.bs.length ≤ 70000 := by
  unfold dropL
  split
  · refine ⟨by rw [List.length_append, List.length_take, List.length_drop]; omega, fun p hp => ?_⟩
    rcases List.mem_append.1 hp with hp | hp
    · exact h2 p (List.mem_of_mem_take hp)
    · exact h2 p (List.mem_of_mem_drop hp)
  · exact ⟨by omega, h2⟩
theorem sendL_bound {C : Int → Int → Bool} {x t : Int} {bs : List UInt8} {l : List Ab} {i : Nat} (h1 : l.length ≤ i) (h2 : ∀ p ∈ l, p.bs.length ≤ 70000) : (sendL C x t bs l).length ≤ i + 1 ∧ ∀ p ∈ sendL C x t bs l, p.bs.length ≤ 70000 := by
  unfold sendL
  split
  · rename_i hok
    refine ⟨by simp; omega, fun p hp => ?_⟩
    rcases List.mem_append.1 hp with hp | hp
    · exact h2 p hp
    · rw [List.mem_singleton] at hp
      subst hp
      unfold sendOk at hok
      rw [Bool.and_eq_true] at hok
      exact (of_decide_eq_true hok.1).2.2
  · exact ⟨by omega, h2⟩
theorem spoilL_bound {l : List Ab} {k a : Int} {t : UInt8} {i : Nat} (h1 : l.length ≤ i) (h2 : ∀ p ∈ l, p.bs.length ≤ 70000) : (spoilL l k a t).length ≤ i + 1 ∧ ∀ p ∈ spoilL l k a t, p.bs.length ≤ 70000 := by
  unfold spoilL
  split
  · exact ⟨by omega, h2⟩
  · rename_i p0 hp0
    split
    · refine ⟨by rw [List.length_set]; omega, fun p hp => ?_⟩
      rcases List.mem_or_eq_of_mem_set hp with hp | rfl
      · exact h2 p hp
      · unfold spoilA
        rw [List.length_set]
        unfold pickL at hp0
        split at hp0
        · exact h2 _ (List.mem_of_getElem? hp0)
        · cases hp0
    · exact ⟨by omega, h2⟩
theorem pick_bound {l : List Ab} {k : Int} (h2 : ∀ p ∈ l, p.bs.length ≤ 70000) : (((pickL l k).map Ab.bs).getD []).length ≤ 70000 := by
  unfold pickL
  split
  · cases h : l[k.toNat]? with
    | none => simp
    | some p => simpa using h2 p (List.mem_of_getElem? h)
  · simp
set_option maxHeartbeats 1000000 in
theorem newQ_any (w0 w : World) (F : Fresh w0 w) : Calls Try.prog 17 #[] w fun e w' => ∃ b F', e = .returned (.pointer (some ⟨b, 0, none⟩)) ∧ IsS w0 F' b [] 0 (fun _ _ => false) w' ∧ ∀ k, F' k → k < w'.heap.size := by
  have hmm := @run_makeMap Try.prog
  have HF := Lib.hid F
  have HB := Lib.hid (Blk.new (w.alloc (.map #[] 0)) 97 #[.slice none 0 0, .map (some w.heap.size)])
  have HM : Hid (IsS w0 (fun k => k = w.heap.size ∨ k = w.heap.size + 1) (w.alloc (.map #[] 0)).heap.size [] 0 (fun _ _ => false) ((w.alloc (.map #[] 0)).alloc (.cells #[.slice none 0 0, .map (some w.heap.size)] 97))) := by
    have hs := F.size
    refine Lib.hid ⟨w.heap.size, .slice none 0 0, [], rfl, ⟨HB.out, Sl.nil _ _ _ _, fun p hp => (by cases hp), List.Pairwise.nil, fun k hk => (by cases hk), fun p hp => (by cases hp), .inr (World.size_alloc _ _), fun k hk => ?_, (F.alloc _).alloc _⟩, ⟨⟨[], OM.frm (World.ownsMap_made w _ _ _) ((Frm.refl (fun _ => False) _).alloc _) (fun f => f), cutsAre_new⟩, .inl rfl⟩⟩
    simp only [World.size_alloc]
    omega
  clear F
  go_enter Try.func17, Try.ntmps17
  go_wp2_with fail
  go_ret
  exact ⟨_, _, by simp, HM.out, fun k hk => (HM.out.low k hk).2⟩
end Go.Proofs.Ytlceembcehokoaa
namespace Go.Proofs.Ytlceembcehokoaa
open Go.RowKit
set_option maxRecDepth 100000

def zeros258 : Array Value := (.slice none 0 0 :: .slice none 0 0 :: List.replicate 256 (.bool false)).toArray
theorem zero_net (w : World) : (zeroValue 61).run Try.prog w = .ok (.agg zeros258) w := by kernel_rfl
theorem zeros_cell {x y : Nat} (hx : x ≤ 15) (hy : y ≤ 15) : zeros258[2 + x * 16 + y]? = some (.bool false) := by
  unfold zeros258
  rw [List.getElem?_toArray, show 2 + x * 16 + y = (x * 16 + y) + 1 + 1 by omega, List.getElem?_cons_succ, List.getElem?_cons_succ, List.getElem?_replicate, if_pos (by omega)]
theorem isRd_new {w0 w : World} (K : Fresh w0 w) : IsRd w0 (fun k => k = w.heap.size) w.heap.size [] (fun _ _ => false) (w.alloc (.cells zeros258 61)) := by
  have hs := K.size
  refine ⟨.slice none 0 0, .slice none 0 0, [], rfl, ⟨⟨_, Blk.new w _ _, rfl, rfl, rfl, fun x y hx hy => zeros_cell hx hy⟩, Sl.nil _ _ _ _, Sl.nil _ _ _ _, fun p hp => (by cases hp), List.Pairwise.nil, fun k hk => (by cases hk), fun k hk => (by cases hk), fun p hp => (by cases hp), rfl, fun k hk => ?_, K.alloc _⟩⟩
  rw [World.size_alloc]
  omega
set_option maxHeartbeats 8000000 in
theorem scripts_law (w : World) (A : Option Addr) (cap : Nat) (ss : List NStp) (hA : Rd w w.heap.size A (ss.flatMap ncells)) (hok : ∀ s ∈ ss, NOk w s) (hlen : ss.length ≤ 9223372036854775807) :
    Calls Try.prog 9 #[.slice A ss.length cap] w fun e w' => e = .returned (.bool true) ∧ Below w.heap.size w w' := by
  have HA := Lib.hid hA
  have HOK := Lib.hid hok
  clear hA hok
  go_enter Try.func9, Try.ntmps9
  go_wp2_with fail
  refine (awake_any w).mono ?_
  rintro e w1 ⟨rfl, f1⟩
  have HF1 := Lib.hid f1
  clear f1
  go_wp2_with fail
  refine (newQ_any w w1 HF1.out).mono ?_
  rintro e w2 ⟨b, F0, rfl, hp, hFl⟩
  have HP := Lib.hid hp
  have HFL := Lib.hid hFl
  clear hp hFl
  have hzn := @zero_net
  go_wp2_with fail
  obtain ⟨w3, hw3⟩ : ∃ w3, w2.alloc (.cells zeros258 61) = w3 := ⟨_, rfl⟩
  have HT : Hid (Two w F0 (fun k => k = w2.heap.size) b w2.heap.size [] 0 (fun _ _ => false) w3) := Lib.hid (by
    rw [← hw3]
    exact ⟨HP.out.fresh ((Frm.refl _ w2).alloc _), isRd_new HP.out.frm, fun k hk e => by have := HFL.out k hk; omega⟩)
  rw [hw3]
  clear hw3 hzn HP HFL HF1
  generalize w2.heap.size = r at HT ⊢
  have HI0 : Hid (Inv w b r 0 w3) := Lib.hid ⟨_, _, _, _, _, HT.out, by omega, by simp, fun p hp => by cases hp⟩
  clear HT
  go_loopw [6] (fun v6 wr => ∃ (i : Nat), i ≤ ss.length ∧ i ≤ 300 ∧ v6 = .int .i64 (i : Int) ∧ Inv w b r i wr) (fun v6 _ => ss.length - (intOf v6).toNat)
  case atStart => exact ⟨0, by omega, by omega, rfl, HI0.out⟩
  case round =>
    clear HI0
    obtain ⟨i, hin, hi3, rfl, hinv⟩ := hrel
    have HINV := Lib.hid hinv
    have hfr : Fresh w wr := by obtain ⟨_, _, _, _, _, h, _⟩ := hinv; exact h.p.frm
    have HFR := Lib.hid hfr
    have hi0 : (0 : Int) ≤ (i : Int) := by omega
    clear hinv hfr
    by_cases hgo : i < ss.length ∧ i < 300
    · obtain ⟨hil, hi2⟩ := hgo
      have hili : (i : Int) < (ss.length : Int) := by omega
      have hi2i : (i : Int) < 300 := by omega
      obtain ⟨bl, o, rfl, _, p7⟩ := nseven_at ((HA.out.fresh (Nat.le_refl _) HFR.out).more HFR.out.size) hil
      have hsok := HOK.out _ (List.getElem_mem hil)
      obtain ⟨s, hs⟩ : ∃ s, s = ss[i] := ⟨_, rfl⟩
      rw [← hs] at p7 hsok
      clear hs
      obtain ⟨op, x, t, AB, cb, bs, k, at_, tn⟩ := s
      obtain ⟨wx, wt, wk, wa, hbc, hbm, hrd⟩ := hsok
      obtain ⟨c0, c1, c2, c3, c4, c5, c6⟩ := p7
      unfold bv at c6
      dsimp only at c0 c1 c2 c3 c4 c5 c6 wx wt wk wa hbc hbm hrd
      have HWX := Lib.hid wx
      have HWT := Lib.hid wt
      have HWK := Lib.hid wk
      have HWA := Lib.hid wa
      have HRW := Lib.hid hrd
      clear wx wt wk wa hrd
      obtain ⟨F, G, l, c, C, htw, hcb, hll, hbl⟩ := HINV.out
      have HBL := Lib.hid hbl
      obtain ⟨W, hW⟩ : ∃ W, wr.alloc (.cells #[.int .i64 op, .int .i64 x, .int .i64 t, .slice AB bs.length cb, .int .i64 k, .int .i64 at_, .int .u8 (tn.toNat : Int)] 63) = W := ⟨_, rfl⟩
      have KW : Fresh wr W := by rw [← hW]; exact (Frm.refl _ wr).alloc _
      have bx : Blk W wr.heap.size 63 #[.int .i64 op, .int .i64 x, .int .i64 t, .slice AB bs.length cb, .int .i64 k, .int .i64 at_, .int .u8 (tn.toNat : Int)] := by rw [← hW]; exact Blk.new wr _ _
      have BX := Lib.hid bx
      have HNF : Hid (¬ F wr.heap.size) := Lib.hid (fun e => by have := (htw.p.low _ e).2; omega)
      have HNG : Hid (∀ k, G k → k < W.heap.size) := Lib.hid (fun k e => by have := (htw.d.low _ e).2; have := KW.size; omega)
      have HTW := Lib.hid (htw.fresh KW)
      have HRD := Lib.hid ((HRW.out.fresh (Nat.le_refl _) HTW.out.p.frm).more HTW.out.p.frm.size)
      have y0_W : W.cell? ⟨wr.heap.size, 0, none⟩ = some (.int .i64 op) := bx.cell 0
      have y1_W : W.cell? ⟨wr.heap.size, 1, none⟩ = some (.int .i64 x) := bx.cell 1
      have y2_W : W.cell? ⟨wr.heap.size, 2, none⟩ = some (.int .i64 t) := bx.cell 2
      have y3_W : W.cell? ⟨wr.heap.size, 3, none⟩ = some (.slice AB bs.length cb) := bx.cell 3
      have y4_W : W.cell? ⟨wr.heap.size, 4, none⟩ = some (.int .i64 k) := bx.cell 4
      have y5_W : W.cell? ⟨wr.heap.size, 5, none⟩ = some (.int .i64 at_) := bx.cell 5
      have y6_W : W.cell? ⟨wr.heap.size, 6, none⟩ = some (.int .u8 (tn.toNat : Int)) := bx.cell 6
      clear htw hbl KW bx
      go_upto_region 10 with fail
      go_cut [65] from 36 to 203 (fun s65 wx => wx = W ∧ (s65 = .bool true ∨ (s65 = .bool false ∧ bs.length ≤ 100000)))
      case first =>
        by_cases hbig : 100000 < bs.length
        · have hbi : (100000 : Int) < (bs.length : Int) := by omega
          go_wp2_with fail
          go_meet
          exact ⟨rfl, .inl (by first | rfl | simp)⟩
        · have hbi : ¬ (100000 : Int) < (bs.length : Int) := by omega
          by_cases h20 : 20 < i
          · have hi20 : (20 : Int) < (i : Int) := by omega
            by_cases h1000 : 1000 < bs.length
            · have hb1 : (1000 : Int) < (bs.length : Int) := by omega
              go_wp2_with fail
              go_meet
              exact ⟨rfl, .inl (by first | rfl | simp)⟩
            · have hb1 : ¬ (1000 : Int) < (bs.length : Int) := by omega
              go_wp2_with fail
              go_meet
              exact ⟨rfl, .inr ⟨by first | rfl | simp, by omega⟩⟩
          · have hi20 : ¬ (20 : Int) < (i : Int) := by omega
            go_wp2_with fail
            go_meet
            exact ⟨rfl, .inr ⟨by first | rfl | simp, by omega⟩⟩
      case rest =>
        obtain ⟨hwc, hs65⟩ := hcut
        rw [hwc]
        clear hwc
        rcases hs65 with rfl | ⟨rfl, hbi⟩
        · go_wp2_with fail
          go_ret
          exact ⟨rfl, Fresh.below HTW.out.p.frm⟩
        · go_upto_block 2 with fail
          go_cut [8] from 36 to 203 (fun s8 wx => s8 = .bool true ∧ Inv w b r (i + 1) wx)
          case first =>
            by_cases h0 : op = 0
            · as_aux_lemma =>
                obtain rfl : op = 0 := h0
                have HS := Lib.hid (sendQ_any w W F b l c C HTW.out.p (by omega) x t HWX.out HWT.out AB cb bs HRD.out (by omega) hbc hbm)
                unfold SendQ at HS
                go_wp2_with fail
                refine HS.out.mono ?_
                rintro e w5 ⟨rfl, h5⟩
                have HST := Lib.hid h5
                have HMID := Lib.hid (HTW.out.mid h5)
                have KW5 : Hid (Fresh w w5) := Lib.hid (by
                  obtain ⟨_, _, k5, _⟩ := h5
                  exact HTW.out.p.frm.trans' k5 (fun k hk e => by have := (HTW.out.p.low k e).1; omega))
                have b5 : Blk w5 wr.heap.size 63 #[.int .i64 0, .int .i64 x, .int .i64 t, .slice AB bs.length cb, .int .i64 k, .int .i64 at_, .int .u8 (tn.toNat : Int)] := by
                  obtain ⟨_, _, k5, _⟩ := h5
                  exact BX.out.frm k5 (fun e => HNF.out e)
                have HB5 := Lib.hid b5
                have y1_w5 : w5.cell? ⟨wr.heap.size, 1, none⟩ = some (.int .i64 x) := b5.cell 1
                have y2_w5 : w5.cell? ⟨wr.heap.size, 2, none⟩ = some (.int .i64 t) := b5.cell 2
                have y3_w5 : w5.cell? ⟨wr.heap.size, 3, none⟩ = some (.slice AB bs.length cb) := b5.cell 3
                have y4_w5 : w5.cell? ⟨wr.heap.size, 4, none⟩ = some (.int .i64 k) := b5.cell 4
                have y5_w5 : w5.cell? ⟨wr.heap.size, 5, none⟩ = some (.int .i64 at_) := b5.cell 5
                have y6_w5 : w5.cell? ⟨wr.heap.size, 6, none⟩ = some (.int .u8 (tn.toNat : Int)) := b5.cell 6
                clear h5 b5
                have HR := Lib.hid (refSend_any w w5 G r l C HMID.out (by omega) x t AB cb bs ((HRW.out.fresh (Nat.le_refl _) KW5.out).more KW5.out.size) (by omega))
                unfold RSend at HR
                generalize sendOk C x t bs = ok at HR ⊢
                go_wp2_with fail
                refine HR.out.mono ?_
                rintro e w7 ⟨rfl, h7⟩
                obtain ⟨F', G', ht'⟩ := HTW.out.both HST.out (Frm.refl _ _) h7
                have HT' := Lib.hid ht'
                clear ht' h7
                have HBD : Hid ((sendL C x t bs l).length ≤ i + 1 ∧ ∀ p ∈ sendL C x t bs l, p.bs.length ≤ 70000) := Lib.hid (sendL_bound hll HBL.out)
                have HCB : Hid (c ≤ 2 * (i + 1)) := Lib.hid (by omega)
                go_wp2_with fail
                go_meet
                exact ⟨by first | rfl | simp, F', G', _, _, _, HT'.out, by have := HCB.out; omega, HBD.out.1, HBD.out.2⟩
            · by_cases h1 : op = 1
              · as_aux_lemma =>
                  obtain rfl : op = 1 := h1
                  have HS := Lib.hid (takeQ_any w W F b l c C HTW.out.p (by omega) (fun p hp => by have := HBL.out p hp; omega) k)
                  unfold TakeQ at HS
                  have HR : Hid (∀ W6, IsRd w G r l C W6 → Calls Try.prog 24 #[.pointer (some ⟨r, 0, none⟩), .int .i64 k] W6 fun e w' => RTake w G r l k C W6 e w') := Lib.hid (fun W6 h6 => refTake_any w W6 G r l C h6 (by omega) (fun p hp => by have := HBL.out p hp; omega) k)
                  unfold RTake at HR
                  have HPB := Lib.hid (pick_bound (k := k) HBL.out)
                  generalize ((pickL l k).map Ab.f).getD 0 = pf at HS HR
                  generalize ((pickL l k).map Ab.t).getD 0 = pt at HS HR
                  generalize ((pickL l k).map Ab.bs).getD [] = pb at HS HR HPB
                  generalize (if (pickL l k).isSome = true then (0 : Int) else 2) = z at HS HR
                  go_wp2_with fail
                  refine HS.out.mono ?_
                  rintro e w5 ⟨⟨v5, rfl, hs5⟩, h5⟩
                  have hsz5 : W.heap.size ≤ w5.heap.size := by
                    obtain ⟨_, _, k5, _⟩ := h5
                    exact k5.size
                  have HSZ5 := Lib.hid hsz5
                  clear hsz5
                  have HST := Lib.hid h5
                  have HMID := Lib.hid (HTW.out.mid h5)
                  have KW5 : Hid (Fresh w w5) := Lib.hid (by
                    obtain ⟨_, _, k5, _⟩ := h5
                    exact HTW.out.p.frm.trans' k5 (fun k hk e => by have := (HTW.out.p.low k e).1; omega))
                  have b5 : Blk w5 wr.heap.size 63 #[.int .i64 1, .int .i64 x, .int .i64 t, .slice AB bs.length cb, .int .i64 k, .int .i64 at_, .int .u8 (tn.toNat : Int)] := by
                    obtain ⟨_, _, k5, _⟩ := h5
                    exact BX.out.frm k5 (fun e => HNF.out e)
                  have HB5 := Lib.hid b5
                  have y1_w5 : w5.cell? ⟨wr.heap.size, 1, none⟩ = some (.int .i64 x) := b5.cell 1
                  have y2_w5 : w5.cell? ⟨wr.heap.size, 2, none⟩ = some (.int .i64 t) := b5.cell 2
                  have y3_w5 : w5.cell? ⟨wr.heap.size, 3, none⟩ = some (.slice AB bs.length cb) := b5.cell 3
                  have y4_w5 : w5.cell? ⟨wr.heap.size, 4, none⟩ = some (.int .i64 k) := b5.cell 4
                  have y5_w5 : w5.cell? ⟨wr.heap.size, 5, none⟩ = some (.int .i64 at_) := b5.cell 5
                  have y6_w5 : w5.cell? ⟨wr.heap.size, 6, none⟩ = some (.int .u8 (tn.toNat : Int)) := b5.cell 6
                  clear h5 b5
                  obtain ⟨A5, c5, rfl, _⟩ := hs5.shape
                  obtain ⟨W6, hW6⟩ : ∃ W6, w5.alloc (.cells #[.int .i64 pf, .int .i64 pt, .slice A5 pb.length c5] 45) = W6 := ⟨_, rfl⟩
                  have K6 : Fresh w5 W6 := by rw [← hW6]; exact (Frm.refl _ w5).alloc _
                  have BY : Hid (Blk W6 w5.heap.size 45 #[.int .i64 pf, .int .i64 pt, .slice A5 pb.length c5]) := Lib.hid (by rw [← hW6]; exact Blk.new w5 _ _)
                  have HS6 := Lib.hid (hs5.fresh K6)
                  have hb6 := HB5.out.frm K6 (fun f => f)
                  have y1_W6 : W6.cell? ⟨wr.heap.size, 1, none⟩ = some (.int .i64 x) := hb6.cell 1
                  have y2_W6 : W6.cell? ⟨wr.heap.size, 2, none⟩ = some (.int .i64 t) := hb6.cell 2
                  have y3_W6 : W6.cell? ⟨wr.heap.size, 3, none⟩ = some (.slice AB bs.length cb) := hb6.cell 3
                  have y4_W6 : W6.cell? ⟨wr.heap.size, 4, none⟩ = some (.int .i64 k) := hb6.cell 4
                  have y5_W6 : W6.cell? ⟨wr.heap.size, 5, none⟩ = some (.int .i64 at_) := hb6.cell 5
                  have y6_W6 : W6.cell? ⟨wr.heap.size, 6, none⟩ = some (.int .u8 (tn.toNat : Int)) := hb6.cell 6
                  have HR2 := Lib.hid (HR.out W6 (HMID.out.fresh K6))
                  have HK6 := Lib.hid K6
                  have HSZ6 : Hid (W.heap.size ≤ w5.heap.size ∧ w5.heap.size < W6.heap.size) := Lib.hid ⟨HSZ5.out, by rw [← hW6, World.size_alloc]; omega⟩
                  clear hs5 hb6 K6
                  go_wp2_with fail
                  clear hW6
                  refine HR2.out.mono ?_
                  rintro e w7 ⟨⟨v7, rfl, hs7⟩, h7⟩
                  have HR7 := Lib.hid h7
                  have KR : Hid (Frm G W6 w7) := Lib.hid (by obtain ⟨_, _, k7, _⟩ := h7; exact k7)
                  clear h7
                  obtain ⟨A7, c7, rfl, _⟩ := hs7.shape
                  obtain ⟨W8, hW8⟩ : ∃ W8, w7.alloc (.cells #[.int .i64 pf, .int .i64 pt, .slice A7 pb.length c7] 45) = W8 := ⟨_, rfl⟩
                  have K8 : Fresh w7 W8 := by rw [← hW8]; exact (Frm.refl _ w7).alloc _
                  have b12 : Blk W8 w7.heap.size 45 #[.int .i64 pf, .int .i64 pt, .slice A7 pb.length c7] := by rw [← hW8]; exact Blk.new w7 _ _
                  have b10 := (BY.out.frm KR.out (fun e => by have := HNG.out _ e; have := HSZ6.out; omega)).frm K8 (fun f => f)
                  have p0_W8 : W8.cell? ⟨w5.heap.size, 0, none⟩ = some (.int .i64 pf) := b10.cell 0
                  have p1_W8 : W8.cell? ⟨w5.heap.size, 1, none⟩ = some (.int .i64 pt) := b10.cell 1
                  have p2_W8 : W8.cell? ⟨w5.heap.size, 2, none⟩ = some (.slice A5 pb.length c5) := b10.cell 2
                  have q0_W8 : W8.cell? ⟨w7.heap.size, 0, none⟩ = some (.int .i64 pf) := b12.cell 0
                  have q1_W8 : W8.cell? ⟨w7.heap.size, 1, none⟩ = some (.int .i64 pt) := b12.cell 1
                  have q2_W8 : W8.cell? ⟨w7.heap.size, 2, none⟩ = some (.slice A7 pb.length c7) := b12.cell 2
                  have r5 := (HS6.out.frm KR.out (fun k hk e => by have := HNG.out _ e; have := (HS6.out.lt k hk).1; omega)).fresh K8
                  have HSP := Lib.hid (samePacket_any W8 pf pt A5 A7 c5 c7 pb r5.rd (hs7.fresh K8).rd)
                  obtain ⟨F', G', ht8⟩ := HTW.out.both HST.out HK6.out HR7.out
                  have HT8 := Lib.hid (ht8.fresh K8)
                  clear ht8
                  clear hs7 K8 b10 b12 r5
                  go_wp2_with fail
                  clear hW8
                  refine HSP.out.mono ?_
                  rintro e w9 ⟨rfl, f9⟩
                  have HT' := Lib.hid (HT8.out.fresh f9)
                  clear f9
                  have HBD : Hid ((dropL l k).length ≤ i + 1 ∧ ∀ p ∈ dropL l k, p.bs.length ≤ 70000) := Lib.hid (dropL_bound hll HBL.out)
                  have HCB : Hid (c ≤ 2 * (i + 1)) := Lib.hid (by omega)
                  go_wp2_with fail
                  go_meet
                  exact ⟨by first | rfl | simp, F', G', _, _, _, HT'.out, by have := HCB.out; omega, HBD.out.1, HBD.out.2⟩
              · by_cases h2 : op = 2
                · as_aux_lemma =>
                    obtain rfl : op = 2 := h2
                    have HS : Hid (Calls Try.prog 26 #[.pointer (some ⟨b, 0, none⟩), .int .i64 k] W fun e w' => CopyQ (pickL l k) W e w') := Lib.hid (by
                      obtain ⟨m, v, q, hql, hq, _⟩ := HTW.out.p
                      have hqn : q.length = l.length := by rw [← hql, List.length_map]
                      have := copyQ_any w W F b m v q hq (by omega) (fun p hp => by have := HBL.out p.a (by rw [← hql]; exact List.mem_map_of_mem hp); omega) k
                      rwa [hql] at this)
                    unfold CopyQ at HS
                    have HR : Hid (∀ W6, IsRd w G r l C W6 → Calls Try.prog 27 #[.pointer (some ⟨r, 0, none⟩), .int .i64 k] W6 fun e w' => CopyQ (pickL l k) W6 e w') := Lib.hid (fun W6 h6 => refCopy_any w W6 G r l C h6 (by omega) (fun p hp => by have := HBL.out p hp; omega) k)
                    unfold CopyQ at HR
                    have HPB := Lib.hid (pick_bound (k := k) HBL.out)
                    generalize ((pickL l k).map Ab.f).getD 0 = pf at HS HR
                    generalize ((pickL l k).map Ab.t).getD 0 = pt at HS HR
                    generalize ((pickL l k).map Ab.bs).getD [] = pb at HS HR HPB
                    generalize (if (pickL l k).isSome = true then (0 : Int) else 2) = z at HS HR
                    go_wp2_with fail
                    refine HS.out.mono ?_
                    rintro e w5 ⟨v5, rfl, hs5, f5⟩
                    have HK5 := Lib.hid f5
                    have HB5 := Lib.hid (BX.out.frm f5 (fun f => f))
                    have b5 := HB5.out
                    have y1_w5 : w5.cell? ⟨wr.heap.size, 1, none⟩ = some (.int .i64 x) := b5.cell 1
                    have y2_w5 : w5.cell? ⟨wr.heap.size, 2, none⟩ = some (.int .i64 t) := b5.cell 2
                    have y3_w5 : w5.cell? ⟨wr.heap.size, 3, none⟩ = some (.slice AB bs.length cb) := b5.cell 3
                    have y4_w5 : w5.cell? ⟨wr.heap.size, 4, none⟩ = some (.int .i64 k) := b5.cell 4
                    have y5_w5 : w5.cell? ⟨wr.heap.size, 5, none⟩ = some (.int .i64 at_) := b5.cell 5
                    have y6_w5 : w5.cell? ⟨wr.heap.size, 6, none⟩ = some (.int .u8 (tn.toNat : Int)) := b5.cell 6
                    clear b5 f5
                    obtain ⟨A5, c5, rfl, _⟩ := hs5.shape
                    obtain ⟨W6, hW6⟩ : ∃ W6, w5.alloc (.cells #[.int .i64 pf, .int .i64 pt, .slice A5 pb.length c5] 45) = W6 := ⟨_, rfl⟩
                    have K6 : Fresh w5 W6 := by rw [← hW6]; exact (Frm.refl _ w5).alloc _
                    have BY : Hid (Blk W6 w5.heap.size 45 #[.int .i64 pf, .int .i64 pt, .slice A5 pb.length c5]) := Lib.hid (by rw [← hW6]; exact Blk.new w5 _ _)
                    have HS6 := Lib.hid (hs5.fresh K6)
                    have hb6 := HB5.out.frm K6 (fun f => f)
                    have y1_W6 : W6.cell? ⟨wr.heap.size, 1, none⟩ = some (.int .i64 x) := hb6.cell 1
                    have y2_W6 : W6.cell? ⟨wr.heap.size, 2, none⟩ = some (.int .i64 t) := hb6.cell 2
                    have y3_W6 : W6.cell? ⟨wr.heap.size, 3, none⟩ = some (.slice AB bs.length cb) := hb6.cell 3
                    have y4_W6 : W6.cell? ⟨wr.heap.size, 4, none⟩ = some (.int .i64 k) := hb6.cell 4
                    have y5_W6 : W6.cell? ⟨wr.heap.size, 5, none⟩ = some (.int .i64 at_) := hb6.cell 5
                    have y6_W6 : W6.cell? ⟨wr.heap.size, 6, none⟩ = some (.int .u8 (tn.toNat : Int)) := hb6.cell 6
                    have HR2 := Lib.hid (HR.out W6 (HTW.out.d.fresh (HK5.out.trans K6)))
                    have HK6 := Lib.hid K6
                    have HSZ6 : Hid (W.heap.size ≤ w5.heap.size ∧ w5.heap.size < W6.heap.size) := Lib.hid ⟨HK5.out.size, by rw [← hW6, World.size_alloc]; omega⟩
                    clear hs5 hb6 K6
                    go_wp2_with fail
                    clear hW6
                    refine HR2.out.mono ?_
                    rintro e w7 ⟨v7, rfl, hs7, f7⟩
                    have KR : Hid (Fresh W6 w7) := Lib.hid f7
                    clear f7
                    obtain ⟨A7, c7, rfl, _⟩ := hs7.shape
                    obtain ⟨W8, hW8⟩ : ∃ W8, w7.alloc (.cells #[.int .i64 pf, .int .i64 pt, .slice A7 pb.length c7] 45) = W8 := ⟨_, rfl⟩
                    have K8 : Fresh w7 W8 := by rw [← hW8]; exact (Frm.refl _ w7).alloc _
                    have b12 : Blk W8 w7.heap.size 45 #[.int .i64 pf, .int .i64 pt, .slice A7 pb.length c7] := by rw [← hW8]; exact Blk.new w7 _ _
                    have b10 := (BY.out.frm KR.out (fun f => f)).frm K8 (fun f => f)
                    have p0_W8 : W8.cell? ⟨w5.heap.size, 0, none⟩ = some (.int .i64 pf) := b10.cell 0
                    have p1_W8 : W8.cell? ⟨w5.heap.size, 1, none⟩ = some (.int .i64 pt) := b10.cell 1
                    have p2_W8 : W8.cell? ⟨w5.heap.size, 2, none⟩ = some (.slice A5 pb.length c5) := b10.cell 2
                    have q0_W8 : W8.cell? ⟨w7.heap.size, 0, none⟩ = some (.int .i64 pf) := b12.cell 0
                    have q1_W8 : W8.cell? ⟨w7.heap.size, 1, none⟩ = some (.int .i64 pt) := b12.cell 1
                    have q2_W8 : W8.cell? ⟨w7.heap.size, 2, none⟩ = some (.slice A7 pb.length c7) := b12.cell 2
                    have r5 := (HS6.out.frm KR.out (fun _ _ f => f)).fresh K8
                    have HSP := Lib.hid (samePacket_any W8 pf pt A5 A7 c5 c7 pb r5.rd (hs7.fresh K8).rd)
                    have HT8 := Lib.hid (HTW.out.fresh (((HK5.out.trans HK6.out).trans KR.out).trans K8))
                    clear hs7 K8 b10 b12 r5
                    go_wp2_with fail
                    clear hW8
                    refine HSP.out.mono ?_
                    rintro e w9 ⟨rfl, f9⟩
                    have HT' := Lib.hid (HT8.out.fresh f9)
                    clear f9
                    have HBD : Hid ((l).length ≤ i + 1 ∧ ∀ p ∈ l, p.bs.length ≤ 70000) := Lib.hid (⟨by omega, HBL.out⟩)
                    have HCB : Hid (c ≤ 2 * (i + 1)) := Lib.hid (by omega)
                    go_wp2_with fail
                    go_meet
                    exact ⟨by first | rfl | simp, F, G, _, _, _, HT'.out, by have := HCB.out; omega, HBD.out.1, HBD.out.2⟩
                · by_cases h3 : op = 3
                  · as_aux_lemma =>
                      obtain rfl : op = 3 := h3
                      have HS := Lib.hid (loseQ_any w W F b l c C HTW.out.p (by omega) k)
                      unfold LoseQ at HS
                      go_wp2_with fail
                      refine HS.out.mono ?_
                      rintro e w5 ⟨rfl, h5⟩
                      have HST := Lib.hid h5
                      have HMID := Lib.hid (HTW.out.mid h5)
                      have KW5 : Hid (Fresh w w5) := Lib.hid (by
                        obtain ⟨_, _, k5, _⟩ := h5
                        exact HTW.out.p.frm.trans' k5 (fun k hk e => by have := (HTW.out.p.low k e).1; omega))
                      have b5 : Blk w5 wr.heap.size 63 #[.int .i64 3, .int .i64 x, .int .i64 t, .slice AB bs.length cb, .int .i64 k, .int .i64 at_, .int .u8 (tn.toNat : Int)] := by
                        obtain ⟨_, _, k5, _⟩ := h5
                        exact BX.out.frm k5 (fun e => HNF.out e)
                      have HB5 := Lib.hid b5
                      have y1_w5 : w5.cell? ⟨wr.heap.size, 1, none⟩ = some (.int .i64 x) := b5.cell 1
                      have y2_w5 : w5.cell? ⟨wr.heap.size, 2, none⟩ = some (.int .i64 t) := b5.cell 2
                      have y3_w5 : w5.cell? ⟨wr.heap.size, 3, none⟩ = some (.slice AB bs.length cb) := b5.cell 3
                      have y4_w5 : w5.cell? ⟨wr.heap.size, 4, none⟩ = some (.int .i64 k) := b5.cell 4
                      have y5_w5 : w5.cell? ⟨wr.heap.size, 5, none⟩ = some (.int .i64 at_) := b5.cell 5
                      have y6_w5 : w5.cell? ⟨wr.heap.size, 6, none⟩ = some (.int .u8 (tn.toNat : Int)) := b5.cell 6
                      clear h5 b5
                      have HR := Lib.hid (refLose_any w w5 G r l C HMID.out (by omega) k)
                      unfold RLose at HR
                      generalize (if (pickL l k).isSome = true then (0 : Int) else 2) = z at HR ⊢
                      go_wp2_with fail
                      refine HR.out.mono ?_
                      rintro e w7 ⟨rfl, h7⟩
                      obtain ⟨F', G', ht'⟩ := HTW.out.both HST.out (Frm.refl _ _) h7
                      have HT' := Lib.hid ht'
                      clear ht' h7
                      have HBD : Hid ((dropL l k).length ≤ i + 1 ∧ ∀ p ∈ dropL l k, p.bs.length ≤ 70000) := Lib.hid (dropL_bound hll HBL.out)
                      have HCB : Hid (c ≤ 2 * (i + 1)) := Lib.hid (by omega)
                      go_wp2_with fail
                      go_meet
                      exact ⟨by first | rfl | simp, F', G', _, _, _, HT'.out, by have := HCB.out; omega, HBD.out.1, HBD.out.2⟩
                  · by_cases h4 : op = 4
                    · as_aux_lemma =>
                        obtain rfl : op = 4 := h4
                        have HS := Lib.hid (spoilQ_any w W F b l c C HTW.out.p (by omega) (fun p hp => by have := HBL.out p hp; omega) k at_ tn)
                        unfold bv SpoilQ at HS
                        go_wp2_with fail
                        refine HS.out.mono ?_
                        rintro e w5 ⟨rfl, h5⟩
                        have HST := Lib.hid h5
                        have HMID := Lib.hid (HTW.out.mid h5)
                        have KW5 : Hid (Fresh w w5) := Lib.hid (by
                          obtain ⟨_, _, k5, _⟩ := h5
                          exact HTW.out.p.frm.trans' k5 (fun k hk e => by have := (HTW.out.p.low k e).1; omega))
                        have b5 : Blk w5 wr.heap.size 63 #[.int .i64 4, .int .i64 x, .int .i64 t, .slice AB bs.length cb, .int .i64 k, .int .i64 at_, .int .u8 (tn.toNat : Int)] := by
                          obtain ⟨_, _, k5, _⟩ := h5
                          exact BX.out.frm k5 (fun e => HNF.out e)
                        have HB5 := Lib.hid b5
                        have y1_w5 : w5.cell? ⟨wr.heap.size, 1, none⟩ = some (.int .i64 x) := b5.cell 1
                        have y2_w5 : w5.cell? ⟨wr.heap.size, 2, none⟩ = some (.int .i64 t) := b5.cell 2
                        have y3_w5 : w5.cell? ⟨wr.heap.size, 3, none⟩ = some (.slice AB bs.length cb) := b5.cell 3
                        have y4_w5 : w5.cell? ⟨wr.heap.size, 4, none⟩ = some (.int .i64 k) := b5.cell 4
                        have y5_w5 : w5.cell? ⟨wr.heap.size, 5, none⟩ = some (.int .i64 at_) := b5.cell 5
                        have y6_w5 : w5.cell? ⟨wr.heap.size, 6, none⟩ = some (.int .u8 (tn.toNat : Int)) := b5.cell 6
                        clear h5 b5
                        have HR := Lib.hid (refSpoil_any w w5 G r l C HMID.out (by omega) (fun p hp => by have := HBL.out p hp; omega) k at_ tn)
                        unfold bv RSpoil at HR
                        generalize spoilE l k at_ = z at HR ⊢
                        go_wp2_with fail
                        refine HR.out.mono ?_
                        rintro e w7 ⟨rfl, h7⟩
                        obtain ⟨F', G', ht'⟩ := HTW.out.both HST.out (Frm.refl _ _) h7
                        have HT' := Lib.hid ht'
                        clear ht' h7
                        have HBD : Hid ((spoilL l k at_ tn).length ≤ i + 1 ∧ ∀ p ∈ spoilL l k at_ tn, p.bs.length ≤ 70000) := Lib.hid (spoilL_bound hll HBL.out)
                        have HCB : Hid (c ≤ 2 * (i + 1)) := Lib.hid (by omega)
                        go_wp2_with fail
                        go_meet
                        exact ⟨by first | rfl | simp, F', G', _, _, _, HT'.out, by have := HCB.out; omega, HBD.out.1, HBD.out.2⟩
                    · by_cases h5 : op = 5
                      · as_aux_lemma =>
                          obtain rfl : op = 5 := h5
                          have HS := Lib.hid (cutQ_any w W F b l c C HTW.out.p (by omega) k at_ HWK.out HWA.out)
                          unfold SetQ at HS
                          go_wp2_with fail
                          refine HS.out.mono ?_
                          rintro e w5 ⟨rfl, c', hc', h5⟩
                          have HCP := Lib.hid hc'
                          clear hc'
                          have HST := Lib.hid h5
                          have HMID := Lib.hid (HTW.out.mid h5)
                          have KW5 : Hid (Fresh w w5) := Lib.hid (by
                            obtain ⟨_, _, k5, _⟩ := h5
                            exact HTW.out.p.frm.trans' k5 (fun k hk e => by have := (HTW.out.p.low k e).1; omega))
                          have b5 : Blk w5 wr.heap.size 63 #[.int .i64 5, .int .i64 x, .int .i64 t, .slice AB bs.length cb, .int .i64 k, .int .i64 at_, .int .u8 (tn.toNat : Int)] := by
                            obtain ⟨_, _, k5, _⟩ := h5
                            exact BX.out.frm k5 (fun e => HNF.out e)
                          have HB5 := Lib.hid b5
                          have y1_w5 : w5.cell? ⟨wr.heap.size, 1, none⟩ = some (.int .i64 x) := b5.cell 1
                          have y2_w5 : w5.cell? ⟨wr.heap.size, 2, none⟩ = some (.int .i64 t) := b5.cell 2
                          have y3_w5 : w5.cell? ⟨wr.heap.size, 3, none⟩ = some (.slice AB bs.length cb) := b5.cell 3
                          have y4_w5 : w5.cell? ⟨wr.heap.size, 4, none⟩ = some (.int .i64 k) := b5.cell 4
                          have y5_w5 : w5.cell? ⟨wr.heap.size, 5, none⟩ = some (.int .i64 at_) := b5.cell 5
                          have y6_w5 : w5.cell? ⟨wr.heap.size, 6, none⟩ = some (.int .u8 (tn.toNat : Int)) := b5.cell 6
                          clear h5 b5
                          have HR := Lib.hid (refCut_any w w5 G r l C HMID.out k at_ true)
                          unfold RCut at HR
                          generalize (if okPair k at_ = true then (0 : Int) else 1) = z at HR ⊢
                          generalize (if okPair k at_ = true then setC C k at_ true else C) = D at HR HST ⊢
                          go_wp2_with fail
                          refine HR.out.mono ?_
                          rintro e w7 ⟨rfl, h7⟩
                          obtain ⟨F', G', ht'⟩ := HTW.out.both HST.out (Frm.refl _ _) h7
                          have HT' := Lib.hid ht'
                          clear ht' h7
                          have HBD : Hid ((l).length ≤ i + 1 ∧ ∀ p ∈ l, p.bs.length ≤ 70000) := Lib.hid (⟨by omega, HBL.out⟩)
                          have HCB : Hid (c' ≤ 2 * (i + 1)) := Lib.hid (by have := HCP.out; omega)
                          go_wp2_with fail
                          go_meet
                          exact ⟨by first | rfl | simp, F', G', _, _, _, HT'.out, by have := HCB.out; omega, HBD.out.1, HBD.out.2⟩
                      · by_cases h6 : op = 6
                        · as_aux_lemma =>
                            obtain rfl : op = 6 := h6
                            have HS := Lib.hid (healQ_any w W F b l c C HTW.out.p (by omega) k at_ HWK.out HWA.out)
                            unfold SetQ at HS
                            go_wp2_with fail
                            refine HS.out.mono ?_
                            rintro e w5 ⟨rfl, c', hc', h5⟩
                            have HCP := Lib.hid hc'
                            clear hc'
                            have HST := Lib.hid h5
                            have HMID := Lib.hid (HTW.out.mid h5)
                            have KW5 : Hid (Fresh w w5) := Lib.hid (by
                              obtain ⟨_, _, k5, _⟩ := h5
                              exact HTW.out.p.frm.trans' k5 (fun k hk e => by have := (HTW.out.p.low k e).1; omega))
                            have b5 : Blk w5 wr.heap.size 63 #[.int .i64 6, .int .i64 x, .int .i64 t, .slice AB bs.length cb, .int .i64 k, .int .i64 at_, .int .u8 (tn.toNat : Int)] := by
                              obtain ⟨_, _, k5, _⟩ := h5
                              exact BX.out.frm k5 (fun e => HNF.out e)
                            have HB5 := Lib.hid b5
                            have y1_w5 : w5.cell? ⟨wr.heap.size, 1, none⟩ = some (.int .i64 x) := b5.cell 1
                            have y2_w5 : w5.cell? ⟨wr.heap.size, 2, none⟩ = some (.int .i64 t) := b5.cell 2
                            have y3_w5 : w5.cell? ⟨wr.heap.size, 3, none⟩ = some (.slice AB bs.length cb) := b5.cell 3
                            have y4_w5 : w5.cell? ⟨wr.heap.size, 4, none⟩ = some (.int .i64 k) := b5.cell 4
                            have y5_w5 : w5.cell? ⟨wr.heap.size, 5, none⟩ = some (.int .i64 at_) := b5.cell 5
                            have y6_w5 : w5.cell? ⟨wr.heap.size, 6, none⟩ = some (.int .u8 (tn.toNat : Int)) := b5.cell 6
                            clear h5 b5
                            have HR := Lib.hid (refCut_any w w5 G r l C HMID.out k at_ false)
                            unfold RCut at HR
                            generalize (if okPair k at_ = true then (0 : Int) else 1) = z at HR ⊢
                            generalize (if okPair k at_ = true then setC C k at_ false else C) = D at HR HST ⊢
                            go_wp2_with fail
                            refine HR.out.mono ?_
                            rintro e w7 ⟨rfl, h7⟩
                            obtain ⟨F', G', ht'⟩ := HTW.out.both HST.out (Frm.refl _ _) h7
                            have HT' := Lib.hid ht'
                            clear ht' h7
                            have HBD : Hid ((l).length ≤ i + 1 ∧ ∀ p ∈ l, p.bs.length ≤ 70000) := Lib.hid (⟨by omega, HBL.out⟩)
                            have HCB : Hid (c' ≤ 2 * (i + 1)) := Lib.hid (by have := HCP.out; omega)
                            go_wp2_with fail
                            go_meet
                            exact ⟨by first | rfl | simp, F', G', _, _, _, HT'.out, by have := HCB.out; omega, HBD.out.1, HBD.out.2⟩
                        · as_aux_lemma =>
                            have HT' := HTW
                            have HBD : Hid ((l).length ≤ i + 1 ∧ ∀ p ∈ l, p.bs.length ≤ 70000) := Lib.hid (⟨by omega, HBL.out⟩)
                            have HCB : Hid (c ≤ 2 * (i + 1)) := Lib.hid (by omega)
                            go_wp2_with fail
                            go_meet
                            exact ⟨by first | rfl | simp, F, G, _, _, _, HT'.out, by have := HCB.out; omega, HBD.out.1, HBD.out.2⟩
          case rest =>
            obtain ⟨hs8, hinv2⟩ := hcut
            subst hs8
            have HNX : Hid (∀ w', Fresh wc w' → Inv w b r (i + 1) w') := Lib.hid (fun w' K => by
              obtain ⟨F1, G1, l1, c1, C1, t1, t2, t3, t4⟩ := hinv2
              exact ⟨F1, G1, l1, c1, C1, t1.fresh K, t2, t3, t4⟩)
            obtain ⟨F', G', l', c', C', ht', _, _, _⟩ := hinv2
            have HT' := Lib.hid ht'
            have HNX := Lib.hid (HNX.out _ ((Frm.refl _ wc).drew))
            clear ht'
            as_aux_lemma =>
              obtain ⟨AR, cr, hcell⟩ := HT'.out.d.head
              have hcd : wc.drew.cell? ⟨r, 0, none⟩ = some (.slice AR _ cr) := hcell
              have HLEN := Lib.hid (lenQ_any w wc.drew F' b _ _ _ (HT'.out.p.fresh ((Frm.refl _ wc).drew)))
              obtain ⟨n', hn'⟩ : ∃ n', n' = l'.length := ⟨_, rfl⟩
              rw [← hn'] at hcd HLEN
              clear hcell hn'
              go_wp2_with fail
              go_region_held3 (fun w' => w'.cell? ⟨r, 0, none⟩ = some (.slice AR n' cr)) (exact hcd) (first | (go_at_call 19; refine HLEN.out.mono ?_; rintro e w' ⟨rfl, rfl⟩))
              go_wp2_with fail
              go_roundw
              case rel => first | exact ⟨i + 1, by omega, by omega, by go_num, HNX.out⟩ | ((repeat apply Exists.intro); exact ⟨⟨i + 1, by omega, by omega, by go_num, HNX.out⟩, rfl⟩)
              case measure => simp [intOf]; omega
    · have HEND : Hid (¬ (i : Int) < (ss.length : Int) ∨ ((i : Int) < (ss.length : Int) ∧ ¬ (i : Int) < 300)) := Lib.hid (by
        by_cases h : i < ss.length
        · exact .inr ⟨by omega, fun h2 => hgo ⟨h, by omega⟩⟩
        · exact .inl (by omega))
      clear hgo
      rcases HEND.out with hh | ⟨hh, hh2⟩
      all_goals (
        as_aux_lemma =>
          obtain ⟨F, G, l, c, C, htw, hcb, hll, hbl⟩ := HINV.out
          have HT := Lib.hid htw
          have HBL := Lib.hid hbl
          clear htw hbl
          obtain ⟨A0, cr0, hcell0⟩ := HT.out.d.head
          go_wp2_with fail
          clear hcell0
          go_loopw [22] (fun v22 ws => ∃ (j : Nat), j ≤ l.length ∧ v22 = .int .i64 (j : Int) ∧ Two w F G b r l c C ws) (fun v22 _ => l.length - (intOf v22).toNat)
          case atStart => exact ⟨0, by omega, rfl, HT.out⟩
          case round =>
            clear HT
            obtain ⟨j, hj, rfl, ht⟩ := hrel
            have HT := Lib.hid ht
            have hj0 : (0 : Int) ≤ (j : Int) := by omega
            by_cases hlt : j < l.length
            · have hlti : (j : Int) < (l.length : Int) := by omega
              have HC : Hid (Calls Try.prog 26 #[.pointer (some ⟨b, 0, none⟩), .int .i64 (j : Int)] wr fun e w' => CopyQ (some l[j]) wr e w') := Lib.hid (by
                obtain ⟨m, v, q, hql, hq, _⟩ := HT.out.p
                have hqn : q.length = l.length := by rw [← hql, List.length_map]
                have := copyQ_any w wr F b m v q hq (by omega) (fun p hp => by have := HBL.out p.a (by rw [← hql]; exact List.mem_map_of_mem hp); omega) (j : Int)
                rwa [hql, pickL_yes hlt] at this)
              unfold CopyQ at HC
              obtain ⟨v, u, q, hql, hq⟩ := ht.d
              have hqn : q.length = l.length := by rw [← hql, List.length_map]
              have hqj : j < q.length := by omega
              have hqa : l[j] = q[j].a := by simp [← hql]
              obtain ⟨g, o, cr, rfl, _, _, k0, k1, k2⟩ := hq.at_ hqj
              have hown := hq.own _ (List.getElem_mem hqj)
              rw [← hqa] at k0 k1 hown
              obtain ⟨AQ, cq, hqv, _, _, _⟩ := hown.shape
              rw [hqv] at k2 hown
              have HOWN := Lib.hid hown
              have e0 : wr.cell? ⟨r, 0, none⟩ = some (.slice (some ⟨g, o, none⟩) l.length cr) := by rw [← hqn]; exact hq.blk.cell0
              have HCELLS := Lib.hid (⟨e0, k0, k1, k2⟩ : _ ∧ _ ∧ _ ∧ _)
              have HLOWG := Lib.hid hq.low
              have HBLK := Lib.hid hq.blk
              have HSLQ := Lib.hid hq.sl
              clear ht hown hqa hqv
              generalize l[j] = p at *
              obtain ⟨pf, pt, pb, pbad⟩ := p
              simp only [Option.map_some, Option.getD_some, Option.isSome_some, if_true] at HC
              dsimp only at k0 k1 k2 HOWN HCELLS
              go_wp2_with fail
              refine HC.out.mono ?_
              rintro e w5 ⟨v5, rfl, hs5, f5⟩
              obtain ⟨A5, c5, rfl, _⟩ := hs5.shape
              obtain ⟨W6, hW6⟩ : ∃ W6, w5.alloc (.cells #[.int .i64 pf, .int .i64 pt, .slice A5 pb.length c5] 45) = W6 := ⟨_, rfl⟩
              have K6 : Fresh w5 W6 := by rw [← hW6]; exact (Frm.refl _ w5).alloc _
              have b10 : Blk W6 w5.heap.size 45 #[.int .i64 pf, .int .i64 pt, .slice A5 pb.length c5] := by rw [← hW6]; exact Blk.new w5 _ _
              have K56 := f5.trans K6
              have kc : ∀ {p : Addr} {z : Value}, wr.cell? p = some z → W6.cell? p = some z := fun {p z} hz => (K56.cell (World.block_lt_of_cell? _ _ hz) (fun f => f)).trans hz
              have SS : Hid (W6.drew.cell? ⟨w5.heap.size, 0, none⟩ = some (.int .i64 pf) ∧ W6.drew.cell? ⟨w5.heap.size, 1, none⟩ = some (.int .i64 pt) ∧ W6.drew.cell? ⟨w5.heap.size, 2, none⟩ = some (.slice A5 pb.length c5) ∧ W6.drew.cell? ⟨r, 0, none⟩ = some (.slice (some ⟨g, o, none⟩) l.length cr) ∧ W6.drew.cell? ⟨g, o + j * 3, none⟩ = some (.int .i64 pf) ∧ W6.drew.cell? ⟨g, o + j * 3 + 1, none⟩ = some (.int .i64 pt) ∧ W6.drew.cell? ⟨g, o + j * 3 + 2, none⟩ = some (.slice AQ pb.length cq)) :=
                Lib.hid ⟨b10.cell 0, b10.cell 1, b10.cell 2, kc HCELLS.out.1, kc HCELLS.out.2.1, kc HCELLS.out.2.2.1, kc HCELLS.out.2.2.2⟩
              have HSP := Lib.hid (samePacket_any W6.drew pf pt A5 AQ c5 cq pb (hs5.fresh K6).rd.drew (HOWN.out.fresh K56).rd.drew)
              have HT6 := Lib.hid (HT.out.fresh K56.drew)
              have KS : Hid (∀ w7, Fresh W6.drew w7 → w7.cell? ⟨w5.heap.size, 0, none⟩ = some (.int .i64 pf) ∧ w7.cell? ⟨w5.heap.size, 1, none⟩ = some (.int .i64 pt) ∧ w7.cell? ⟨w5.heap.size, 2, none⟩ = some (.slice A5 pb.length c5) ∧ w7.cell? ⟨r, 0, none⟩ = some (.slice (some ⟨g, o, none⟩) l.length cr) ∧ w7.cell? ⟨g, o + j * 3, none⟩ = some (.int .i64 pf) ∧ w7.cell? ⟨g, o + j * 3 + 1, none⟩ = some (.int .i64 pt) ∧ w7.cell? ⟨g, o + j * 3 + 2, none⟩ = some (.slice AQ pb.length cq)) := Lib.hid (fun w7 K7 => by
                have kd : ∀ {p : Addr} {z : Value}, W6.drew.cell? p = some z → w7.cell? p = some z := fun {p z} hz => (K7.cell (World.block_lt_of_cell? _ _ hz) (fun f => f)).trans hz
                obtain ⟨s0, s1, s2, s3, s4, s5, s6⟩ := SS.out
                exact ⟨kd s0, kd s1, kd s2, kd s3, kd s4, kd s5, kd s6⟩)
              clear K6 b10 K56 kc hs5 f5 k0 k1 k2 e0 hq hql
              go_wp2_with fail
              go_region_held3 (fun w' => w'.cell? ⟨w5.heap.size, 0, none⟩ = some (.int .i64 pf) ∧ w'.cell? ⟨w5.heap.size, 1, none⟩ = some (.int .i64 pt) ∧ w'.cell? ⟨w5.heap.size, 2, none⟩ = some (.slice A5 pb.length c5) ∧ w'.cell? ⟨r, 0, none⟩ = some (.slice (some ⟨g, o, none⟩) l.length cr) ∧ w'.cell? ⟨g, o + j * 3, none⟩ = some (.int .i64 pf) ∧ w'.cell? ⟨g, o + j * 3 + 1, none⟩ = some (.int .i64 pt) ∧ w'.cell? ⟨g, o + j * 3 + 2, none⟩ = some (.slice AQ pb.length cq))
                (first | exact SS.out | exact KS.out _ HF7.out)
                (first | (go_at_call 25; refine HSP.out.mono ?_; rintro e w7 ⟨rfl, f7⟩; have HF7 := Lib.hid f7; clear f7))
              go_wp2_with fail
              go_roundw
              case rel => exact ⟨j + 1, by omega, by go_num, HT6.out.fresh HF7.out⟩
              case measure => simp [intOf]; omega
            · obtain rfl : j = l.length := by omega
              obtain ⟨A1, cr1, hcell1⟩ := ht.d.head
              clear ht
              go_wp2_with fail
              go_ret
              exact ⟨by first | rfl | simp, Fresh.below HT.out.p.frm⟩)
theorem scripts_walk (w : World) (s : Option Addr × Nat × List NRaw) (hs : IsL w 72 nf7 (nq7 w) s) :
    Calls Try.prog 9 #[sv s] w fun e w' => e = .returned (.bool true) ∧ Below w.heap.size w w' := by
  obtain ⟨A, cap, l⟩ := s
  have hle : l.length ≤ cap := hs.le
  have hm : cap ≤ maxLen := hs.most
  unfold maxLen at hm
  obtain ⟨ss, h1, h2, h3⟩ := to_steps w l hs.all
  have hr : Rd w w.heap.size A (ss.flatMap ncells) := by rw [← h2]; exact hs.rd
  have h := scripts_law w A cap ss hr h3 (by omega)
  rw [h1] at h
  exact h
end Go.Proofs.Ytlceembcehokoaa

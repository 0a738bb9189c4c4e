/- A net with packets: sent, deleted. -/
import Derived.Test.YtlceembcehokoaaNet6
import Derived.Deep.DrawnRows
namespace Go.Proofs.Ytlceembcehokoaa
open Go.RowKit
set_option maxRecDepth 100000

section
attribute [local go_sem ↓] Go.wp_at_zero Go.wp_at_succ
theorem zero_pk (w : World) : (zeroValue 101).run Try.prog w = .ok (.agg #[.int .i64 0, .int .i64 0, .slice none 0 0, .bool false]) w := by kernel_rfl
theorem zero_pk1 : ∀ u ∈ (Value.agg #[.int .i64 0, .int .i64 0, .slice none 0 0, .bool false]).cells.toList, u.oneCell' = true := by
  intro u hu
  have hu : u ∈ [Value.int .i64 0, Value.int .i64 0, Value.slice none 0 0, Value.bool false] := hu
  simp only [List.mem_cons, List.not_mem_nil, or_false] at hu
  rcases hu with rfl | rfl | rfl | rfl <;> rfl
def DelPost (w : World) (B : Nat) (v : Value) (n : Nat) (xs : List Value) (e : Ending) (w' : World) : Prop :=
  ∃ v', e = .returned v' ∧ Sl w' B 101 4 v' n xs ∧ Frm (fun k => v.ownBlock = some k) w w'
theorem del_cells {cur cur2 cur3 : Array Value} {o i m z : Nat} {xs : List Value} (hx : xs.length = (i + 1 + m) * 4) (hc : ∀ (j : Nat) (u : Value), xs[j]? = some u → cur[o + j]? = some u)
    (h2 : ∀ (j : Nat), j < o + i * 4 ∨ z ≤ j → cur2[j]? = cur[j]?) (k2 : ∀ (j : Nat) (u : Value), (xs.drop ((i + 1) * 4))[j]? = some u → cur2[o + i * 4 + j]? = some u)
    {z3 : Nat} (h3 : ∀ (j : Nat), j < o + (i + m) * 4 ∨ z3 ≤ j → cur3[j]? = cur2[j]?) :
    ∀ (j : Nat) (u : Value), (xs.take (i * 4) ++ xs.drop ((i + 1) * 4))[j]? = some u → cur3[o + j]? = some u := by
  intro j u hu
  have htl : (xs.take (i * 4)).length = i * 4 := by rw [List.length_take]; omega
  have hj0 := (List.getElem?_eq_some_iff.1 hu).1
  rw [List.length_append, htl, List.length_drop] at hj0
  rw [h3 _ (.inl (by omega))]
  rw [List.getElem?_append] at hu
  split at hu
  · rename_i hj
    rw [htl] at hj
    rw [List.getElem?_take, if_pos hj] at hu
    rw [h2 _ (.inl (by omega))]
    exact hc j u hu
  · rename_i hj
    rw [htl] at hj hu
    have := k2 _ u hu
    rw [show o + i * 4 + (j - i * 4) = o + j by omega] at this
    exact this
set_option maxHeartbeats 4000000 in
set_option maxRecDepth 100000 in
theorem delete_any (w : World) (B : Nat) (v : Value) (n : Nat) (xs : List Value) (hs : Sl w B 101 4 v n xs) (hn : n ≤ 1000) (i : Nat) (hin : i < n) (h1s : ∀ u ∈ xs, u.oneCell' = true) :
    Calls Try.prog 72 #[v, .int .i64 (i : Int), .int .i64 ((i : Int) + 1)] w fun e w' => DelPost w B v (n - 1) (xs.take (i * 4) ++ xs.drop ((i + 1) * 4)) e w' := by
  obtain ⟨i0, hi, hz0, hz1, hz2⟩ := info_parts info_pk
  obtain ⟨g, o, cap, rfl, _, _, hnc, hcm⟩ := hs.head (by omega)
  obtain ⟨_, hBg, _, _, cur, hblk, hsz, hc⟩ := hs.open'
  have hxsl := hs.1
  unfold maxLen at hcm
  obtain ⟨m, hm⟩ : ∃ m, n - (i + 1) = m := ⟨_, rfl⟩
  obtain ⟨n', hn'⟩ : ∃ n', n - 1 = n' := ⟨_, rfl⟩
  rw [hn']
  have him : i + m = n' := by omega
  have hxs2 : xs.length = (i + 1 + m) * 4 := by rw [hxsl, show i + 1 + m = n by omega]
  have HX2 := Lib.hid hxs2
  have HC := Lib.hid hc
  have HM := Lib.hid hm
  have HIM := Lib.hid him
  have hdl : (xs.drop ((i + 1) * 4)).length = m * 4 := by rw [List.length_drop, hxs2, Nat.add_mul]; omega
  have H1 := Lib.hid (fun u (hu : u ∈ xs.drop ((i + 1) * 4)) => h1s u (List.mem_of_mem_drop hu))
  have hblk' : Blk w.drew g 101 cur := hblk
  have HB := Lib.hid hblk'
  have HDL := Lib.hid hdl
  have hfit : o + i * 4 + m * 4 ≤ cur.size := by omega
  have q1 : ¬ ((i : Int) = (i : Int) + 1) := by omega
  have q2 : (0 : Int) ≤ (i : Int) := by omega
  have q3 : (i : Int) + 1 ≤ (n : Int) := by omega
  have q4 : (i : Int) ≤ (n : Int) := by omega
  have q5 : (i : Int) ≤ (i : Int) + 1 := by omega
  have q6 : (n : Int) ≤ (cap : Int) := by omega
  have w2' : ((i : Int) + 1).toNat = i + 1 := by omega
  have w3 : (0 : Int) ≤ (i : Int) + 1 := by omega
  have q7 : (n' : Int) ≤ (n : Int) := by omega
  have q8 : n - n' = 1 := by omega
  have q9 : ¬ (cap = n') := by omega
  have q10 : (0 : Int) ≤ (n' : Int) := by omega
  have q11 : (n' : Int) ≤ (cap : Int) := by omega
  have q12 : ¬ (n = i) := by omega
  have q13 : i ≤ cap := by omega
  have q14 : n ≤ cap := by omega
  have q15 : n' ≤ n := by omega
  have q16 : n' ≤ cap := by omega
  by_cases hci : cap = i + 1
  · have hm0 : m = 0 := by omega
    have hsrc : ∀ j v, (xs.drop ((i + 1) * 4))[j]? = some v → w.drew.cell? ((⟨g, o, none⟩ : Addr).add j) = some v := fun j v hj => by
      have := (List.getElem?_eq_some_iff.1 hj).1
      omega
    have HM0 := Lib.hid hm0
    clear hm0
    have HSRC := Lib.hid hsrc
    clear hsrc hdl hc hblk hblk' hxsl hxs2 hn' him hs h1s
    have hnm : n - cap = m := by omega
    have hci' : i + 1 = cap := by omega
    have HCI := Lib.hid hci'
    clear hm hci
    go_enter Try.func72, Try.ntmps72
    go_wp2_with fail
    go_region_law (refine step_append_in (P := Try.prog) w.drew rfl (.tmp 22) (.tmp 25) _ rfl 101 i0 4 Try.underlying95 hi hz1 g o i cap (by simp [Act.eval, Act.put]) ⟨g, o, none⟩ m 0 (by simp [Act.eval, Act.put]) (xs.drop ((i + 1) * 4)) HDL.out HSRC.out H1.out (by omega) n' HIM.out 101 cur HB.out (by rw [HDL.out]; exact hfit) ?_; intro w2 cur2 hb2 hz2' ho2 hi2 hf2)
    have HB2 := Lib.hid hb2
    have HO2 := Lib.hid ho2
    have HI2 := Lib.hid hi2
    have HF2 := Lib.hid hf2
    have hfit2 : o + n' * 4 + 1 * 4 ≤ cur2.size := by omega
    have hcap2 : o + cap * 4 ≤ cur2.size := by omega
    clear hb2 ho2 hi2 hf2 hz2'
    go_wp2_with (with_reducible refine wpList_clear_blk (P := Try.prog) w2 rfl (.tmp 31) _ rfl 101 4 _ Try.underlying95 zero_pk rfl zero_pk1 g (o + n' * 4) 1 (cap - n') (by simp [Act.eval, Act.put]) (by omega) 101 cur2 HB2.out hfit2 ?_; intro w3 cur3 hb3 hz3 ho3 hf3)
    have hcells := del_cells (i := i) (m := m) HX2.out HC.out HO2.out HI2.out (cur3 := cur3) (z3 := o + n' * 4 + 1 * 4) (by rw [HIM.out]; exact ho3)
    have HSL : Hid (Sl w3 B 101 4 (.slice (some ⟨g, o, none⟩) n' cap) n' (xs.take (i * 4) ++ xs.drop ((i + 1) * 4))) := Lib.hid (Sl.mk' hBg hb3 (by
      have h1 := HX2.out
      have h2 := HIM.out
      rw [List.length_append, List.length_take, List.length_drop]
      omega) (by omega) (by unfold maxLen; omega) (by omega) hcells)
    have HFF : Hid (Frm (fun k => (Value.slice (some ⟨g, o, none⟩) n cap).ownBlock = some k) w w3) := Lib.hid ((((Frm.refl _ w).drew).trans HF2.out).trans hf3 |>.mono (fun k _ h => by subst h; rfl))
    clear hcells hb3 hz3 ho3 hf3
    go_wp2_with fail
    go_ret
    exact ⟨_, rfl, HSL.out, HFF.out⟩
  · have hsrc : ∀ j v, (xs.drop ((i + 1) * 4))[j]? = some v → w.drew.cell? ((⟨g, o + (i + 1) * 4, none⟩ : Addr).add j) = some v := fun j v hj => by
      rw [Addr.add_lit, show w.drew.cell? ⟨g, o + (i + 1) * 4 + j, none⟩ = w.cell? ⟨g, o + (i + 1) * 4 + j, none⟩ from rfl, hblk.cell, Nat.add_assoc]
      exact hc _ _ (by rwa [List.getElem?_drop] at hj)
    have HSRC := Lib.hid hsrc
    clear hsrc hdl hc hblk hblk' hxsl hxs2 hn' him hs h1s
    go_enter Try.func72, Try.ntmps72
    go_wp2_with fail
    go_region_law (refine step_append_in (P := Try.prog) w.drew rfl (.tmp 22) (.tmp 25) _ rfl 101 i0 4 Try.underlying95 hi hz1 g o i cap (by simp [Act.eval, Act.put]) ⟨g, o + (i + 1) * 4, none⟩ m (cap - (i + 1)) (by simp [Act.eval, Act.put]) (xs.drop ((i + 1) * 4)) HDL.out HSRC.out H1.out (by omega) n' HIM.out 101 cur HB.out (by rw [HDL.out]; exact hfit) ?_; intro w2 cur2 hb2 hz2' ho2 hi2 hf2)
    have HB2 := Lib.hid hb2
    have HO2 := Lib.hid ho2
    have HI2 := Lib.hid hi2
    have HF2 := Lib.hid hf2
    have hfit2 : o + n' * 4 + 1 * 4 ≤ cur2.size := by omega
    have hcap2 : o + cap * 4 ≤ cur2.size := by omega
    clear hb2 ho2 hi2 hf2 hz2'
    go_wp2_with (with_reducible refine wpList_clear_blk (P := Try.prog) w2 rfl (.tmp 31) _ rfl 101 4 _ Try.underlying95 zero_pk rfl zero_pk1 g (o + n' * 4) 1 (cap - n') (by simp [Act.eval, Act.put]) (by omega) 101 cur2 HB2.out hfit2 ?_; intro w3 cur3 hb3 hz3 ho3 hf3)
    have hcells := del_cells (i := i) (m := m) HX2.out HC.out HO2.out HI2.out (cur3 := cur3) (z3 := o + n' * 4 + 1 * 4) (by rw [HIM.out]; exact ho3)
    have HSL : Hid (Sl w3 B 101 4 (.slice (some ⟨g, o, none⟩) n' cap) n' (xs.take (i * 4) ++ xs.drop ((i + 1) * 4))) := Lib.hid (Sl.mk' hBg hb3 (by
      have h1 := HX2.out
      have h2 := HIM.out
      rw [List.length_append, List.length_take, List.length_drop]
      omega) (by omega) (by unfold maxLen; omega) (by omega) hcells)
    have HFF : Hid (Frm (fun k => (Value.slice (some ⟨g, o, none⟩) n cap).ownBlock = some k) w w3) := Lib.hid ((((Frm.refl _ w).drew).trans HF2.out).trans hf3 |>.mono (fun k _ h => by subst h; rfl))
    clear hcells hb3 hz3 ho3 hf3
    go_wp2_with fail
    go_ret
    exact ⟨_, rfl, HSL.out, HFF.out⟩
end
/-- one packet -/
structure Pk where
  f : Int
  t : Int
  v : Value
  bs : List UInt8
def pcells (p : Pk) : List Value := [.int .i64 p.f, .int .i64 p.t, p.v, .bool false]
theorem pcells_len (l : List Pk) : (l.flatMap pcells).length = l.length * 4 := by
  induction l with
  | nil => rfl
  | cons p l ih => rw [List.flatMap_cons, List.length_append, ih, List.length_cons]; show 4 + _ = _; omega
/-- a net without cuts, and its packets -/
structure IsP (w0 : World) (b m : Nat) (l : List Pk) (w : World) : Prop where
  ex : ∃ v, Blk w b 97 #[v, .map (some m)] ∧ Sl w w0.heap.size 101 4 v l.length (l.flatMap pcells)
  own : ∀ p ∈ l, Sl w w0.heap.size 5 1 p.v p.bs.length (p.bs.map bv)
  map : w.ownsMap Try.prog 98 (plainElem (H := Unit) Try.prog 4) m 0 (.map [])
  low : w0.heap.size ≤ b
  frm : Fresh w0 w
theorem IsP.fresh {w0 w w' : World} {b m : Nat} {l : List Pk} (h : IsP w0 b m l w) (F : Fresh w w') : IsP w0 b m l w' := by
  obtain ⟨v, h1, h2⟩ := h.ex
  exact ⟨⟨v, h1.frm F (fun f => f), h2.fresh F⟩, fun p hp => (h.own p hp).fresh F, OM.frm h.map F (fun f => f), h.low, h.frm.trans F⟩
theorem IsN.isP {w0 w : World} {b m : Nat} (h : IsN w0 b m 0 w) : IsP w0 b m [] w := by
  obtain ⟨v, xs, h1, h2⟩ := h.ex
  have : xs = [] := List.eq_nil_of_length_eq_zero (by have := h2.1; omega)
  subst this
  exact ⟨⟨v, h1, h2⟩, (fun p hp => by cases hp), h.map, h.low, h.frm⟩
theorem IsP.one {w0 w : World} {b m : Nat} {l : List Pk} (h : IsP w0 b m l w) : ∀ u ∈ l.flatMap pcells, u.oneCell' = true := by
  intro u hu
  obtain ⟨p, hp, hu⟩ := List.mem_flatMap.1 hu
  obtain ⟨A, c, e, _⟩ := (h.own p hp).shape
  unfold pcells at hu
  rw [e] at hu
  simp only [List.mem_cons, List.not_mem_nil, or_false] at hu
  rcases hu with rfl | rfl | rfl | rfl <;> rfl
/-- the list is another one now -/
theorem isP_put {w0 w4 w5 : World} {b m : Nat} {v v' : Value} {l l' : List Pk} (hb : Blk w4 b 97 #[v, .map (some m)]) (hs : Sl w4 w0.heap.size 101 4 v l.length (l.flatMap pcells))
    (hm : w4.ownsMap Try.prog 98 (plainElem (H := Unit) Try.prog 4) m 0 (.map [])) (low : w0.heap.size ≤ b) (F : Fresh w0 w4) (ho : ∀ p ∈ l', Sl w4 w0.heap.size 5 1 p.v p.bs.length (p.bs.map bv))
    (hf : Frm (fun k => v.ownBlock = some k) w4 w5) (hs5 : Sl w5 w0.heap.size 101 4 v' l'.length (l'.flatMap pcells)) :
    IsP w0 b m l' (w5.setCell ⟨b, 0, none⟩ v') ∧ w5.cell? ⟨b, 0, none⟩ = some v ∧ w5.frozen? ⟨b, 0, none⟩ = false := by
  have hb5 : Blk w5 b 97 #[v, .map (some m)] := hb.frm hf (fun e => hs.apart hb (by decide) e)
  have hm5 := OM.frm hm hf (fun e => OM.not_sl hm hs e)
  have F2 : Frm (fun k => k = b) w5 (w5.setCell ⟨b, 0, none⟩ v') := (Frm.refl (fun k => k = b) w5).setCell (p := ⟨b, 0, none⟩) (fun _ => rfl) v'
  have hb6 := hb5.set 0 v'
  have ho5 : ∀ p ∈ l', Sl w5 w0.heap.size 5 1 p.v p.bs.length (p.bs.map bv) := fun p hp => (ho p hp).frm hf (Rc.sl_apart (ho p hp) hs (by decide))
  refine ⟨⟨⟨v', by simpa using hb6, hs5.frm F2 (fun k hk e => by subst e; exact hs5.apart hb5 (by decide) hk)⟩, fun p hp => (ho5 p hp).frm F2 (fun k hk e => by subst e; exact (ho5 p hp).apart hb5 (by decide) hk), OM.frm hm5 F2 (OM.not_cells hm5 hb5), low, (F.trans' hf (fun k hk e => by have := (hs.lt k e).1; omega)).trans' F2 (fun k hk e => by omega)⟩, hb5.cell 0, hb5.frozen 0⟩
end Go.Proofs.Ytlceembcehokoaa

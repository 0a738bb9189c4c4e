/- The law QueueEach walked. -/
import Derived.Test.YthofodjklogfgaaQueue12
import Derived.Test.YthofodjklogfgaaSteps
import Derived.Test.YthofodjklogfgaaMaps
namespace Go.Proofs.Ythofodjklogfgaa
open Go.RowKit QueueM
attribute [local go_sem] run_store_float

theorem has_ins (x : Wt) (l : List Wt) (id : Int) : QueueM.has id (ins x l) = (decide (x.id = id) || QueueM.has id l) := by
  rw [Bool.eq_iff_iff, has_iff, Bool.or_eq_true, has_iff, decide_eq_true_iff]
  constructor
  · rintro ⟨y, hy, he⟩
    rcases mem_ins.1 hy with rfl | hy
    · exact .inl he
    · exact .inr ⟨y, hy, he⟩
  · rintro (h | ⟨y, hy, he⟩)
    · exact ⟨x, mem_ins.2 (.inl rfl), h⟩
    · exact ⟨y, mem_ins.2 (.inr hy), he⟩
theorem mem_del {l : List Wt} (hn : (l.map (·.id)).Nodup) {id : Int} {x : Wt} : x ∈ del id l ↔ x ∈ l ∧ x.id ≠ id := by
  induction l with
  | nil => simp [del]
  | cons y l ih =>
    rw [List.map_cons, List.nodup_cons] at hn
    by_cases hy : y.id = id
    · have e : del id (y :: l) = l := by
        unfold del place
        rw [List.findIdx_cons]
        simp [hy]
      rw [e]
      constructor
      · intro hx
        refine ⟨List.mem_cons_of_mem _ hx, fun he => hn.1 ?_⟩
        rw [hy, ← he]
        exact List.mem_map.2 ⟨x, hx, rfl⟩
      · rintro ⟨hx, he⟩
        rcases List.mem_cons.1 hx with rfl | hx
        · exact absurd hy he
        · exact hx
    · have e : del id (y :: l) = y :: del id l := by
        unfold del place
        rw [List.findIdx_cons]
        simp [hy]
      rw [e, List.mem_cons, ih hn.2, List.mem_cons]
      constructor
      · rintro (rfl | ⟨h1, h2⟩)
        · exact ⟨.inl rfl, hy⟩
        · exact ⟨.inr h1, h2⟩
      · rintro ⟨rfl | h1, h2⟩
        · exact .inl rfl
        · exact .inr ⟨h1, h2⟩
theorem has_del {l : List Wt} (hn : (l.map (·.id)).Nodup) (i id : Int) : QueueM.has id (del i l) = (!decide (i = id) && QueueM.has id l) := by
  rw [Bool.eq_iff_iff, has_iff, Bool.and_eq_true, has_iff]
  constructor
  · rintro ⟨x, hx, he⟩
    obtain ⟨h1, h2⟩ := (mem_del hn).1 hx
    refine ⟨?_, x, h1, he⟩
    rw [he] at h2
    simp; exact fun h => h2 h.symm
  · rintro ⟨h1, x, hx, he⟩
    refine ⟨x, (mem_del hn).2 ⟨hx, fun h => ?_⟩, he⟩
    rw [he] at h
    simp [h] at h1
theorem id_wf {n : Int} (h1 : 1 ≤ n) (h2 : n ≤ 28629151) : (Lit.int .i64 n).wf = true := by
  have : -9223372036854775808 ≤ n ∧ n ≤ 9223372036854775807 := by omega
  simpa [Lit.wf, IntKind.min, IntKind.max, IntKind.signed, IntKind.bits] using this
theorem add_ok {x : Wt} {l : List Wt} (h : (add x l).1 = 0) : (add x l).2 = ins x l ∧ QueueM.has x.id l = false := by
  unfold add at *
  split
  · rename_i hr
    rw [if_pos hr] at h
    split
    · rename_i hh
      rw [if_pos hh] at h
      exact absurd h (by simp)
    · rename_i hh
      rw [if_neg hh] at h
      split
      · rename_i hf
        rw [if_pos hf] at h
        exact absurd h (by simp)
      · exact ⟨rfl, by simpa using hh⟩
  · rename_i hr
    rw [if_neg hr] at h
    exact absurd h (by simp)
theorem add_no {x : Wt} {l : List Wt} (h : (add x l).1 ≠ 0) : (add x l).2 = l := by
  unfold add at *
  split
  · rename_i hr
    rw [if_pos hr] at h
    split
    · rfl
    · rename_i hh
      rw [if_neg hh] at h
      split
      · rfl
      · rename_i hf
        rw [if_neg hf] at h
        exact absurd rfl h
  · rfl
abbrev DU : Type := DataW Unit
abbrev keyD (id : Int) : Lit := .int .i64 id
/-- the list, and the map of its Ids -/
structure EachInv (w : World) (b mb : Nat) (v : Value) (l : List Wt) (n : Nat) (D : DU) (wr : World) : Prop where
  q : IsQ wr w.heap.size b v l
  good : QueueM.Good l
  om : wr.ownsMap Try.prog 3 (plainElem Try.prog 4) mb n D
  mge : w.heap.size ≤ mb
  has_ : ∀ id, Maps.has D (keyD id) = QueueM.has id l
  at_ : ∀ id, D.atKey (keyD id) (.lit (.bool false)) = .lit (.bool (QueueM.has id l))
  size : Maps.size D = l.length
  frm : Fresh w wr
section
variable {w wr w2 w3 : World} {b mb : Nat} {v v2 : Value} {l l' : List Wt} {n : Nat} {D : DU}
theorem EachInv.fresh (h : EachInv w b mb v l n D wr) (F : Fresh wr w2) : EachInv w b mb v l n D w2 := ⟨h.q.fresh F, h.good, OM.frm h.om F (fun f => f), h.mge, h.has_, h.at_, h.size, h.frm.trans F⟩
/-- behind a step of the list: the map is as it was -/
theorem EachInv.mid (h : EachInv w b mb v l n D wr) (s : StepQ wr w.heap.size b v l' w2) : ∃ v2, IsQ w2 w.heap.size b v2 l' ∧ w2.ownsMap Try.prog 3 (plainElem Try.prog 4) mb n D ∧ Fresh w w2 ∧ Frm (fun k => k = b ∨ v.ownBlock = some k) wr w2 := by
  obtain ⟨v2, hq, hf, _⟩ := s
  refine ⟨v2, hq, OM.frm h.om hf (fun hh => hh.elim (fun e => OM.not_cells h.om h.q.blk e) (fun e => OM.not_sl h.om h.q.sl e)), ?_, hf⟩
  exact h.frm.trans' hf (fun k hk hh => hh.elim (fun e => by have := h.q.ge; omega) (fun e => by have := (h.q.sl.lt k e).1; omega))
/-- behind a write of the map: the list is as it was -/
theorem map_written (hq : IsQ w2 w.heap.size b v2 l') (ho : w2.ownsMap Try.prog 3 (plainElem Try.prog 4) mb n D) (hm : w.heap.size ≤ mb) (hf : Fresh w w2) (hg : w2.grownBy w3 (some mb)) : IsQ w3 w.heap.size b v2 l' ∧ Fresh w w3 ∧ Frm (fun k => some mb = some k) w2 w3 := by
  have F : Frm (fun k => some mb = some k) w2 w3 := Frm.of_grown hg
  refine ⟨hq.frm F (fun e => OM.not_cells ho hq.blk (Option.some.inj e)) (fun k hk e => ?_), hf.trans' F (fun k hk e => ?_), F⟩
  · rw [← e] at hk
    exact OM.not_sl ho hq.sl hk
  · have := Option.some.inj e; omega
theorem remove_cases (id : Int) (l : List Wt) : (QueueM.has id l = true ∧ remove id l = (0, del id l)) ∨ (QueueM.has id l = false ∧ remove id l = (2, l)) := by
  unfold remove
  rcases Bool.eq_false_or_eq_true (QueueM.has id l) with h | h
  · exact .inl ⟨h, by rw [h]; rfl⟩
  · exact .inr ⟨h, by rw [h]; rfl⟩
theorem zero_bool (w : World) : (zeroValue 4).run Try.prog w = .ok (.bool false) w := by kernel_rfl
theorem key_ne {a b : Int} (h : a ≠ b) : keyD a ≠ keyD b := fun e => h (by injection e)
theorem EachInv.put {w wr w2 w3 : World} {b mb : Nat} {v v2 : Value} {l : List Wt} {n : Nat} {D : DU} {x : Wt} (h : EachInv w b mb v l n D wr) (hx : (add x l).1 = 0) (hq : IsQ w2 w.heap.size b v2 (add x l).2) (ho : w2.ownsMap Try.prog 3 (plainElem Try.prog 4) mb n D) (hf : Fresh w w2)
    (ho3 : w3.ownsMap Try.prog 3 (plainElem Try.prog 4) mb (n + 1) (D.put (keyD x.id) (.lit (.bool true)))) (hg : w2.grownBy w3 (some mb)) : EachInv w b mb v2 (ins x l) (n + 1) (D.put (keyD x.id) (.lit (.bool true))) w3 := by
  obtain ⟨e, hh⟩ := add_ok hx
  rw [e] at hq
  obtain ⟨q3, f3, _⟩ := map_written hq ho h.mge hf hg
  have K : WideAt.IsKeyLit (keyD x.id) := trivial
  have hm := h.om.isMap
  refine ⟨q3, by rw [← e]; exact h.good.add x, ho3, h.mge, fun id => ?_, fun id => ?_, ?_, f3⟩
  · rw [has_ins]
    by_cases hi : x.id = id
    · subst hi
      rw [Maps.has_put_same hm K]
      simp
    · rw [Maps.has_put_other (key_ne (fun e => hi e.symm)), h.has_]
      simp [hi]
  · rw [has_ins]
    by_cases hi : x.id = id
    · subst hi
      rw [Maps.atKey_put_same hm K]
      simp
    · rw [Maps.atKey_put_other (key_ne (fun e => hi e.symm)), h.at_]
      simp [hi]
  · rw [Maps.size_put (h.om.tidy (Maps.int_keyed Try.underlying3)), h.has_, hh, h.size, ins_length]
    rfl
theorem EachInv.cut {w wr w2 w3 : World} {b mb : Nat} {v v2 : Value} {l : List Wt} {n : Nat} {D : DU} {id : Int} (h : EachInv w b mb v l n D wr) (hq : IsQ w2 w.heap.size b v2 (remove id l).2) (ho : w2.ownsMap Try.prog 3 (plainElem Try.prog 4) mb n D) (hf : Fresh w w2)
    (ho3 : w3.ownsMap Try.prog 3 (plainElem Try.prog 4) mb n (D.del (keyD id))) (hg : w2.grownBy w3 (some mb)) : EachInv w b mb v2 (remove id l).2 n (D.del (keyD id)) w3 := by
  obtain ⟨q3, f3, _⟩ := map_written hq ho h.mge hf hg
  rcases remove_cases id l with ⟨hh, e⟩ | ⟨hh, e⟩
  · rw [e] at q3 ⊢
    have hg := h.good.remove id
    rw [e] at hg
    refine ⟨q3, hg, ho3, h.mge, fun j => ?_, fun j => ?_, ?_, f3⟩
    · rw [has_del h.good.once]
      by_cases hi : id = j
      · subst hi
        rw [Maps.has_del_same]; simp
      · rw [Maps.has_del_other (key_ne (fun e => hi e.symm)), h.has_]; simp [hi]
    · rw [has_del h.good.once]
      by_cases hi : id = j
      · subst hi
        rw [Maps.atKey_del_same]; simp
      · rw [Maps.atKey_del_other (key_ne (fun e => hi e.symm)), h.at_]; simp [hi]
    · have h1 := Maps.size_del (k := keyD id) (h.om.tidy (Maps.int_keyed Try.underlying3))
      rw [h.has_, hh, h.size] at h1
      have h2 := del_length (place_lt.2 hh)
      have h3 := place_lt.2 hh
      simp only [if_true] at h1
      show Maps.size _ = (del id l).length
      omega
  · rw [e] at q3 ⊢
    have hd : D.del (keyD id) = D := Maps.del_of_not_has (by rw [h.has_, hh])
    rw [hd] at ho3 ⊢
    exact ⟨q3, h.good, ho3, h.mge, h.has_, h.at_, h.size, f3⟩
end
end Go.Proofs.Ythofodjklogfgaa

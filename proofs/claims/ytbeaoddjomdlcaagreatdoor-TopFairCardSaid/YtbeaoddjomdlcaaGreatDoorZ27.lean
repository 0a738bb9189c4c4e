/- Proved here, for the statement TopFairCardSaid: laws that its walk leans on. It holds with no condition. (Put together and shortened by a program out of many texts: To32.) -/
import Derived.Test.YtbeaoddjomdlcaaGreatDoorZ26
set_option linter.unusedVariables false
set_option linter.unusedSimpArgs false
set_option maxRecDepth 100000
set_option maxHeartbeats 64000000
namespace Go.Proofs.YtbeaoddjomdlcaaGreatDoor.QueueM
def Fair (l m : List Wt) : Prop :=
  List.Sublist m l ∧ ∀ a ∈ l, (∀ b ∈ m, b.id ≠ a.id) → ∀ b ∈ m, b.cls = a.cls → b.many = a.many → ahead a b = true
theorem Fair.refl (l : List Wt) : Fair l l := ⟨List.Sublist.refl l, fun a ha h => absurd rfl (h a ha)⟩
theorem del_split (ps qs : List Wt) (w : Wt) (h : ∀ x ∈ ps, x.id ≠ w.id) : del w.id (ps ++ w :: qs) = ps ++ qs := by
  have e : place w.id (ps ++ w :: qs) = ps.length := by
    unfold place
    rw [List.findIdx_append, if_neg (by
      rw [List.findIdx_lt_length]
      rintro ⟨x, hx, he⟩
      exact h x hx (of_decide_eq_true he)), List.findIdx_cons]
    simp
  rw [del_eq, e, List.eraseIdx_append_of_length_le (Nat.le_refl _)]
  simp
theorem once_eq {l : List Wt} (h : (l.map (·.id)).Nodup) {a b : Wt} (ha : a ∈ l) (hb : b ∈ l) (e : a.id = b.id) : a = b := by
  induction l with
  | nil => cases ha
  | cons x r ih =>
    rw [List.map_cons, List.nodup_cons] at h
    rcases List.mem_cons.1 ha with rfl | ha'
    · rcases List.mem_cons.1 hb with rfl | hb'
      · rfl
      · exact absurd (List.mem_map.2 ⟨b, hb', e.symm⟩) h.1
    · rcases List.mem_cons.1 hb with rfl | hb'
      · exact absurd (List.mem_map.2 ⟨a, ha', e⟩) h.1
      · exact ih h.2 ha' hb'
theorem first_has {left : List Int} {m : List Wt} {w : Wt} (hf : first left m = some w) : w ∈ m ∧ has w.id m = true := by
  have := List.mem_of_find?_eq_some hf
  exact ⟨this, has_iff.2 ⟨w, this, rfl⟩⟩
theorem Fair.step {l m : List Wt} (h : Fair l m) (hl : Good l) (hm : Good m) {left : List Int} {w : Wt} (hf : first left m = some w) : Fair l (del w.id m) := by
  obtain ⟨h1, h2⟩ := h
  refine ⟨(del_sub _ _).trans h1, fun a ha hg b hb hc hy => ?_⟩
  obtain ⟨hr, ps, qs, e, hn⟩ := List.find?_eq_some_iff_append.1 hf
  have hbm := (del_sub w.id m).subset hb
  have hnd : ∀ x ∈ ps, x.id ≠ w.id := fun x hx he => by
    have hnd := hm.once
    rw [e, List.map_append, List.map_cons] at hnd
    have := (List.nodup_append.1 hnd).2.2 x.id (List.mem_map.2 ⟨x, hx, rfl⟩) w.id (List.mem_cons_self ..)
    exact this he
  have ed : del w.id m = ps ++ qs := by rw [e]; exact del_split ps qs w hnd
  by_cases hgone : ∀ c ∈ m, c.id ≠ a.id
  · exact h2 a ha hgone b hbm hc hy
  · have : ∃ c, c ∈ m ∧ c.id = a.id := by
      apply Classical.byContradiction
      intro hx
      exact hgone (fun c hc he => hx ⟨c, hc, he⟩)
    obtain ⟨c, hcm, hce⟩ := this
    have hca : c = a := once_eq hl.once (h1.subset hcm) ha hce
    subst hca
    have hcw : c = w := by
      rw [e] at hcm
      rcases List.mem_append.1 hcm with k | k
      · exact absurd rfl (hg c (by rw [ed]; exact List.mem_append_left _ k))
      · rcases List.mem_cons.1 k with k | k
        · exact k
        · exact absurd rfl (hg c (by rw [ed]; exact List.mem_append_right _ k))
    subst hcw
    rw [ed] at hb
    have hs := hm.sorted
    rw [e] at hs
    rcases List.mem_append.1 hb with k | k
    · have h3 := hn b k
      have h4 : room left b = room left c := by unfold room; rw [hc, hy]
      rw [h4, hr] at h3
      cases h3
    · exact (List.pairwise_cons.1 (List.pairwise_append.1 hs).2.1).1 b k
theorem Fair.good {l m : List Wt} (h : Fair l m) (hl : Good l) : Good m := hl.sub h.1
end Go.Proofs.YtbeaoddjomdlcaaGreatDoor.QueueM

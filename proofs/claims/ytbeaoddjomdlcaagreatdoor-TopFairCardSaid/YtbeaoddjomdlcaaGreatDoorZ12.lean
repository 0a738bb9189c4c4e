/- Proved here, for the statement TopFairCardSaid: laws that its walk leans on. It holds with no condition. (Put together and shortened by a program out of many texts: QueueMath.) -/
import Derived.Test.YtbeaoddjomdlcaaGreatDoorZ11
set_option linter.unusedVariables false
set_option linter.unusedSimpArgs false
set_option maxRecDepth 100000
set_option maxHeartbeats 64000000
namespace Go.Proofs.YtbeaoddjomdlcaaGreatDoor.QueueM
structure Wt where
  id : Int
  cls : Int
  many : Int
  time : Int
  score : Nat
def right (w : Wt) : Bool := decide (1 ≤ w.id ∧ w.id ≤ 28629151 ∧ 0 ≤ w.cls ∧ w.cls ≤ 7 ∧ 1 ≤ w.many ∧ w.many ≤ 600 ∧ 0 ≤ w.time ∧ w.time ≤ 1099511627776)
theorem right_iff (w : Wt) : right w = true ↔ (1 ≤ w.id ∧ w.id ≤ 28629151 ∧ 0 ≤ w.cls ∧ w.cls ≤ 7 ∧ 1 ≤ w.many ∧ w.many ≤ 600 ∧ 0 ≤ w.time ∧ w.time ≤ 1099511627776) := by simp [right]
def low : Int := -(FareM.mag 9218868437227405312 : Int) - 1
def wv (u : Nat) : Int := if FareM.nan u then low else FareM.worth u
theorem low_lt {u : Nat} (h : FareM.nan u = false) : low < FareM.worth u := by
  have hr : FareM.rung u ≤ 9218868437227405312 := by simpa [FareM.nan] using h
  have hm : FareM.mag (FareM.rung u) ≤ FareM.mag 9218868437227405312 := by
    rcases Nat.eq_or_lt_of_le hr with e | l
    · rw [e]; exact Nat.le_refl _
    · exact Nat.le_of_lt (FareM.mag_lt l)
  unfold low FareM.worth
  generalize FareM.mag (FareM.rung u) = a at hm
  generalize FareM.mag 9218868437227405312 = b at hm
  split <;> omega
theorem rank_eq (u v : Nat) : FareM.rank u v = FareM.sgnI (wv u) (wv v) := by
  unfold FareM.rank wv
  rcases Bool.eq_false_or_eq_true (FareM.nan u) with hu | hu <;> rcases Bool.eq_false_or_eq_true (FareM.nan v) with hv | hv
  · rw [hu, hv]; simp [FareM.sgnI]
  · have := low_lt hv
    rw [hu, hv]
    simp only [if_true, Bool.false_eq_true, if_false]
    unfold FareM.sgnI
    rw [if_pos this]
  · have := low_lt hu
    rw [hu, hv]
    simp only [if_true, Bool.false_eq_true, if_false]
    unfold FareM.sgnI
    rw [if_neg (by omega), if_pos this]
  · rw [hu, hv]; simp
def ord (a b : Wt) : Int := if FareM.rank b.score a.score ≠ 0 then FareM.rank b.score a.score else if FareM.sgnI a.time b.time ≠ 0 then FareM.sgnI a.time b.time else FareM.sgnI a.id b.id
def ahead (a b : Wt) : Bool := decide (ord a b < 0)
theorem ord_lt_iff (a b : Wt) : ord a b < 0 ↔ (wv b.score < wv a.score ∨ (wv b.score = wv a.score ∧ (a.time < b.time ∨ (a.time = b.time ∧ a.id < b.id)))) := by
  unfold ord
  rw [rank_eq]
  unfold FareM.sgnI
  generalize wv b.score = x
  generalize wv a.score = y
  split <;> (repeat' (first | omega | split at *))
theorem ahead_iff (a b : Wt) : ahead a b = true ↔ (wv b.score < wv a.score ∨ (wv b.score = wv a.score ∧ (a.time < b.time ∨ (a.time = b.time ∧ a.id < b.id)))) := by
  unfold ahead
  rw [decide_eq_true_iff, ord_lt_iff]
theorem ahead_trans {a b c : Wt} (h : ahead a b = true) (k : ahead b c = true) : ahead a c = true := by
  rw [ahead_iff] at *
  omega
theorem ahead_total {a b : Wt} (h : a.id ≠ b.id) (k : ahead a b = false) : ahead b a = true := by
  have k' : ¬ ahead a b = true := by rw [k]; simp
  rw [ahead_iff] at *
  omega
abbrev Sorted (l : List Wt) : Prop := l.Pairwise (fun a b => ahead a b = true)
def cnt (w : Wt) (l : List Wt) : Nat := (l.takeWhile (fun x => ahead x w)).length
theorem cnt_le (w : Wt) (l : List Wt) : cnt w l ≤ l.length := (List.takeWhile_sublist _).length_le
theorem cnt_cons (w x : Wt) (l : List Wt) : cnt w (x :: l) = if ahead x w = true then cnt w l + 1 else 0 := by
  unfold cnt
  rw [List.takeWhile_cons]
  split <;> rfl
theorem ahead_lt (w : Wt) : ∀ (l : List Wt) (k : Nat) (h : k < l.length), k < cnt w l → ahead l[k] w = true
  | x :: l, 0, _, hk => by
    rw [cnt_cons] at hk
    split at hk
    · assumption
    · omega
  | x :: l, k + 1, h, hk => by
    rw [cnt_cons] at hk
    split at hk
    · rw [List.getElem_cons_succ]
      exact ahead_lt w l k (by simpa using h) (by omega)
    · omega
theorem ahead_at (w : Wt) : ∀ (l : List Wt) (h : cnt w l < l.length), ahead l[cnt w l] w = false
  | x :: l, h => by
    rcases Bool.eq_false_or_eq_true (ahead x w) with hx | hx
    · have e : cnt w (x :: l) = cnt w l + 1 := by rw [cnt_cons, if_pos hx]
      have := ahead_at w l (by rw [e] at h; simpa using h)
      simp only [e, List.getElem_cons_succ]
      exact this
    · have e : cnt w (x :: l) = 0 := by rw [cnt_cons, if_neg (by rw [hx]; simp)]
      simp only [e, List.getElem_cons_zero]
      exact hx
theorem ahead_pos {l : List Wt} (hs : Sorted l) (w : Wt) (k : Nat) (h : k < l.length) : ahead l[k] w = decide (k < cnt w l) := by
  by_cases hk : k < cnt w l
  · rw [ahead_lt w l k h hk]; simp [hk]
  · have hc : cnt w l < l.length := by omega
    have h0 := ahead_at w l hc
    rw [show decide (k < cnt w l) = false by simp; omega]
    rcases Nat.eq_or_lt_of_le (show cnt w l ≤ k by omega) with e | lt
    · subst e; exact h0
    · have h1 : ahead l[cnt w l] l[k] = true := List.pairwise_iff_getElem.1 hs _ _ hc h lt
      rcases Bool.eq_false_or_eq_true (ahead l[k] w) with h2 | h2
      · have := ahead_trans h1 h2
        rw [h0] at this; cases this
      · exact h2
def ins (w : Wt) (l : List Wt) : List Wt := l.take (cnt w l) ++ w :: l.drop (cnt w l)
theorem ins_length (w : Wt) (l : List Wt) : (ins w l).length = l.length + 1 := by
  have := cnt_le w l
  simp [ins, List.length_take, List.length_drop]; omega
theorem mem_ins {w x : Wt} {l : List Wt} : x ∈ ins w l ↔ x = w ∨ x ∈ l := by
  unfold ins
  conv => rhs; rw [← List.take_append_drop (cnt w l) l]
  simp only [List.mem_append, List.mem_cons]
  constructor
  · rintro (h | h | h)
    · exact .inr (.inl h)
    · exact .inl h
    · exact .inr (.inr h)
  · rintro (h | h | h)
    · exact .inr (.inl h)
    · exact .inl h
    · exact .inr (.inr h)
theorem ins_sorted {w : Wt} {l : List Wt} (hs : Sorted l) (hid : ∀ x ∈ l, x.id ≠ w.id) : Sorted (ins w l) := by
  unfold Sorted ins
  rw [List.pairwise_append, List.pairwise_cons]
  refine ⟨hs.sublist (List.take_sublist _ _), ⟨?_, hs.sublist (List.drop_sublist _ _)⟩, ?_⟩
  · intro x hx
    obtain ⟨k, hk, rfl⟩ := List.mem_iff_getElem.1 hx
    rw [List.getElem_drop]
    rw [List.length_drop] at hk
    have h1 := ahead_pos hs w (cnt w l + k) (by omega)
    rw [show decide (cnt w l + k < cnt w l) = false by simp] at h1
    exact ahead_total (hid _ (List.getElem_mem _)) h1
  · intro x hx y hy
    have hw : ahead x w = true := by
      obtain ⟨k, hk, rfl⟩ := List.mem_iff_getElem.1 hx
      rw [List.getElem_take]
      rw [List.length_take] at hk
      exact ahead_lt w l k (by omega) (by omega)
    rcases List.mem_cons.1 hy with rfl | hy
    · exact hw
    · have := List.pairwise_append.1 (show List.Pairwise (fun a b => ahead a b = true) (l.take (cnt w l) ++ l.drop (cnt w l)) by rw [List.take_append_drop]; exact hs)
      exact this.2.2 x hx y hy
structure Good (l : List Wt) : Prop where
  sorted : Sorted l
  right : ∀ x ∈ l, right x = true
  once : (l.map (·.id)).Nodup
  few : l.length ≤ 200
theorem Good.nil : Good [] := ⟨List.Pairwise.nil, by simp, by simp, by simp⟩
def has (id : Int) (l : List Wt) : Bool := l.any (fun x => decide (x.id = id))
theorem has_iff {id : Int} {l : List Wt} : has id l = true ↔ ∃ x ∈ l, x.id = id := by simp [has]
def add (w : Wt) (l : List Wt) : Int × List Wt := if right w = true then (if has w.id l = true then (7, l) else if 200 ≤ l.length then (3, l) else (0, ins w l)) else (1, l)
theorem ins_ids (w : Wt) (l : List Wt) : ((ins w l).map (·.id)).Perm (w.id :: l.map (·.id)) := by
  unfold ins
  rw [List.map_append, List.map_cons]
  refine List.perm_middle.trans ?_
  rw [← List.map_append, List.take_append_drop]
theorem Good.add {l : List Wt} (h : Good l) (w : Wt) : Good (add w l).2 := by
  unfold QueueM.add
  split
  · split
    · exact h
    · split
      · exact h
      · rename_i hr hh hf
        have hid : ∀ x ∈ l, x.id ≠ w.id := fun x hx e => hh (has_iff.2 ⟨x, hx, e⟩)
        refine ⟨ins_sorted h.sorted hid, ?_, ?_, by rw [ins_length]; omega⟩
        · intro x hx
          rcases mem_ins.1 hx with rfl | hx
          · exact hr
          · exact h.right x hx
        · rw [(ins_ids w l).nodup_iff, List.nodup_cons]
          refine ⟨fun hm => ?_, h.once⟩
          obtain ⟨x, hx, e⟩ := List.mem_map.1 hm
          exact hid x hx e
  · exact h
def place (id : Int) (l : List Wt) : Nat := l.findIdx (fun x => decide (x.id = id))
theorem place_lt {id : Int} {l : List Wt} : place id l < l.length ↔ has id l = true := by
  unfold place has
  rw [List.findIdx_lt_length, List.any_eq_true]
def del (id : Int) (l : List Wt) : List Wt := l.take (place id l) ++ l.drop (place id l + 1)
def remove (id : Int) (l : List Wt) : Int × List Wt := if has id l = true then (0, del id l) else (2, l)
theorem del_eq (id : Int) (l : List Wt) : del id l = l.eraseIdx (place id l) := by unfold del; rw [List.eraseIdx_eq_take_drop_succ]
theorem del_sub (id : Int) (l : List Wt) : List.Sublist (del id l) l := by rw [del_eq]; exact List.eraseIdx_sublist _ _
theorem Good.sub {l m : List Wt} (h : Good l) (hs : List.Sublist m l) : Good m :=
  ⟨h.sorted.sublist hs, fun x hx => h.right x (hs.subset hx), h.once.sublist (hs.map _), Nat.le_trans hs.length_le h.few⟩
theorem Good.remove {l : List Wt} (h : Good l) (id : Int) : Good (remove id l).2 := by
  unfold QueueM.remove
  split
  · exact h.sub (del_sub id l)
  · exact h
def room (left : List Int) (w : Wt) : Bool := decide (w.cls < left.length) && decide (w.many ≤ left.getD w.cls.toNat 0)
def first (left : List Int) (l : List Wt) : Option Wt := l.find? (room left)
end Go.Proofs.YtbeaoddjomdlcaaGreatDoor.QueueM

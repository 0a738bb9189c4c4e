/- Those who wait, as cells: what a list of them reads as; the place of an Id. No program is named here. -/
import Derived.Test.YthofodjklogfgaaQueueMath
import Derived.Test.YthofodjklogfgaaReads
namespace Go.Proofs.Ythofodjklogfgaa
open Go.RowKit QueueM

/-- the cells of one who waits -/
def wcells (x : Wt) : List Value := [.int .i64 x.id, .int .i64 x.cls, .int .i64 x.many, .int .i64 x.time, .float .f64 x.score]
def wagg (x : Wt) : Value := .agg #[.int .i64 x.id, .int .i64 x.cls, .int .i64 x.many, .int .i64 x.time, .float .f64 x.score]
theorem wcells_len (l : List Wt) : (l.flatMap wcells).length = l.length * 5 := flatMap_len l (fun _ _ => rfl)
theorem wcells_one (l : List Wt) : ∀ u ∈ l.flatMap wcells, u.oneCell' = true := by
  intro u hu
  obtain ⟨x, _, hx⟩ := List.mem_flatMap.1 hu
  simp only [wcells, List.mem_cons, List.not_mem_nil, or_false] at hx
  rcases hx with rfl | rfl | rfl | rfl | rfl <;> rfl
theorem wcells_get : ∀ (l : List Wt) (i : Nat) (h : i < l.length) (j : Nat), j < 5 → (l.flatMap wcells)[i * 5 + j]? = (wcells l[i])[j]?
  | x :: l, 0, _, j, hj => by
    rw [List.flatMap_cons, Nat.zero_mul, Nat.zero_add, List.getElem?_append_left (by exact hj)]
    rfl
  | x :: l, i + 1, h, j, hj => by
    rw [List.flatMap_cons, List.getElem?_append_right (by show 5 ≤ _; omega), show (wcells x).length = 5 from rfl, show (i + 1) * 5 + j - 5 = i * 5 + j by omega]
    exact wcells_get l i (by simpa using h) j hj
theorem wcells_take : ∀ (l : List Wt) (k : Nat), (l.take k).flatMap wcells = (l.flatMap wcells).take (k * 5)
  | [], k => by simp
  | x :: l, 0 => by simp
  | x :: l, k + 1 => by
    have e : (k + 1) * 5 = (wcells x).length + k * 5 := by rw [show (wcells x).length = 5 from rfl]; omega
    rw [List.take_succ_cons, List.flatMap_cons, List.flatMap_cons, wcells_take l k, e, List.take_length_add_append]
theorem wcells_drop : ∀ (l : List Wt) (k : Nat), (l.drop k).flatMap wcells = (l.flatMap wcells).drop (k * 5)
  | [], k => by simp
  | x :: l, 0 => by simp
  | x :: l, k + 1 => by
    have e : (k + 1) * 5 = (wcells x).length + k * 5 := by rw [show (wcells x).length = 5 from rfl]; omega
    rw [List.drop_succ_cons, List.flatMap_cons, wcells_drop l k, e, List.drop_length_add_append]
theorem wcells_ins (x : Wt) (l : List Wt) : (ins x l).flatMap wcells = (l.flatMap wcells).take (cnt x l * 5) ++ wcells x ++ (l.flatMap wcells).drop (cnt x l * 5) := by
  unfold ins
  rw [List.flatMap_append, List.flatMap_cons, wcells_take, wcells_drop, List.append_assoc]
theorem wcells_del (id : Int) (l : List Wt) : (del id l).flatMap wcells = (l.flatMap wcells).take (place id l * 5) ++ (l.flatMap wcells).drop ((place id l + 1) * 5) := by
  unfold del
  rw [List.flatMap_append, wcells_take, wcells_drop]
/-- the five cells of one of them -/
def Five (w : World) (b o : Nat) (x : Wt) : Prop :=
  w.cell? ⟨b, o, none⟩ = some (.int .i64 x.id) ∧ w.cell? ⟨b, o + 1, none⟩ = some (.int .i64 x.cls) ∧ w.cell? ⟨b, o + 2, none⟩ = some (.int .i64 x.many) ∧ w.cell? ⟨b, o + 3, none⟩ = some (.int .i64 x.time) ∧ w.cell? ⟨b, o + 4, none⟩ = some (.float .f64 x.score)
theorem five_at {w : World} {B : Nat} {A : Option Addr} {l : List Wt} (h : Rd w B A (l.flatMap wcells)) {i : Nat} (hi : i < l.length) :
    ∃ b o, A = some ⟨b, o, none⟩ ∧ b < B ∧ Five w b (o + i * 5) l[i] := by
  have hne : l.flatMap wcells ≠ [] := fun e => by
    have := wcells_len l
    rw [e] at this
    simp at this
    omega
  obtain ⟨b, o, hA, hb, hc⟩ := h hne
  have g := fun j (hj : j < 5) => wcells_get l i hi j hj
  refine ⟨b, o, hA, hb, ?_, ?_, ?_, ?_, ?_⟩
  · exact hc _ _ (g 0 (by omega))
  · rw [Nat.add_assoc]; exact hc _ _ (g 1 (by omega))
  · rw [Nat.add_assoc]; exact hc _ _ (g 2 (by omega))
  · rw [Nat.add_assoc]; exact hc _ _ (g 3 (by omega))
  · rw [Nat.add_assoc]; exact hc _ _ (g 4 (by omega))
theorem Five.drewN {w : World} {b o : Nat} {x : Wt} (h : Five w b o x) (n : Nat) : Five (w.drewN n) b o x := h
theorem Five.fresh {w w' : World} {b o : Nat} {x : Wt} (h : Five w b o x) (F : Fresh w w') : Five w' b o x := by
  have k : ∀ j u, w.cell? ⟨b, j, none⟩ = some u → w'.cell? ⟨b, j, none⟩ = some u := fun j u hu => (F.cell (World.block_lt_of_cell? _ _ hu) (fun f => f)).trans hu
  exact ⟨k _ _ h.1, k _ _ h.2.1, k _ _ h.2.2.1, k _ _ h.2.2.2.1, k _ _ h.2.2.2.2⟩
theorem five_blk {w : World} {b : Nat} {t : TypeId} {x : Wt} (h : Blk w b t (wcells x).toArray) : Five w b 0 x := ⟨h.cell 0, h.cell 1, h.cell 2, h.cell 3, h.cell 4⟩

/-- the store of a float: the kit's walk has none -/
theorem run_store_float {P : Program} (w : World) (a : Addr) (m : Mode) (k : FloatKind) (u : Nat) : (store a (.float k u) m).run P w = stored P w a (.float k u) m := run_store P w a _ m rfl
/-- where one of an Id stands; -1: nowhere -/
def plc (id : Int) (l : List Wt) : Int := if has id l = true then (place id l : Int) else -1
theorem plc_at {id : Int} {l : List Wt} {i : Nat} (h : i < l.length) (no : ∀ j (hj : j < l.length), j < i → l[j].id ≠ id) (yes : l[i].id = id) : plc id l = (i : Int) := by
  have e : place id l = i := by
    unfold place
    rw [List.findIdx_eq h]
    refine ⟨by simpa using yes, fun j hj => ?_⟩
    simpa using no j (by omega) hj
  unfold plc
  rw [if_pos (place_lt.1 (by rw [e]; exact h)), e]
theorem plc_none {id : Int} {l : List Wt} (no : ∀ j (hj : j < l.length), l[j].id ≠ id) : plc id l = -1 := by
  unfold plc
  rw [if_neg]
  intro h
  obtain ⟨x, hx, e⟩ := has_iff.1 h
  obtain ⟨j, hj, rfl⟩ := List.mem_iff_getElem.1 hx
  exact no j hj e
theorem plc_yes {id : Int} {l : List Wt} (h : has id l = true) : plc id l = (place id l : Int) ∧ place id l < l.length := ⟨by unfold plc; rw [if_pos h], place_lt.2 h⟩
theorem plc_no {id : Int} {l : List Wt} (h : has id l = false) : plc id l = -1 := by unfold plc; rw [h]; rfl
end Go.Proofs.Ythofodjklogfgaa

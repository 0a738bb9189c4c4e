/- The steps of a script, as cells. No program is named here. -/
import Derived.Test.YthofodjklogfgaaWaits
namespace Go.Proofs.Ythofodjklogfgaa
open Go.RowKit QueueM

structure Stp where
  op : Int
  x : Wt
  left : Option Addr × Nat × List Int
def scells (s : Stp) : List Value := [.int .i64 s.op, .int .i64 s.x.id, .int .i64 s.x.cls, .int .i64 s.x.many, .int .i64 s.x.time, .float .f64 s.x.score, sv s.left]
theorem scells_len (l : List Stp) : (l.flatMap scells).length = l.length * 7 := flatMap_len l (fun _ _ => rfl)
theorem scells_get : ∀ (l : List Stp) (i : Nat) (h : i < l.length) (j : Nat), j < 7 → (l.flatMap scells)[i * 7 + j]? = (scells l[i])[j]?
  | x :: l, 0, _, j, hj => by
    rw [List.flatMap_cons, Nat.zero_mul, Nat.zero_add, List.getElem?_append_left (by exact hj)]
    rfl
  | x :: l, i + 1, h, j, hj => by
    rw [List.flatMap_cons, List.getElem?_append_right (by show 7 ≤ _; omega), show (scells x).length = 7 from rfl, show (i + 1) * 7 + j - 7 = i * 7 + j by omega]
    exact scells_get l i (by simpa using h) j hj
def Seven (w : World) (b o : Nat) (s : Stp) : Prop :=
  w.cell? ⟨b, o, none⟩ = some (.int .i64 s.op) ∧ w.cell? ⟨b, o + 1, none⟩ = some (.int .i64 s.x.id) ∧ w.cell? ⟨b, o + 2, none⟩ = some (.int .i64 s.x.cls) ∧ w.cell? ⟨b, o + 3, none⟩ = some (.int .i64 s.x.many) ∧
  w.cell? ⟨b, o + 4, none⟩ = some (.int .i64 s.x.time) ∧ w.cell? ⟨b, o + 5, none⟩ = some (.float .f64 s.x.score) ∧ w.cell? ⟨b, o + 6, none⟩ = some (sv s.left)
theorem seven_at {w : World} {B : Nat} {A : Option Addr} {l : List Stp} (h : Rd w B A (l.flatMap scells)) {i : Nat} (hi : i < l.length) :
    ∃ b o, A = some ⟨b, o, none⟩ ∧ b < B ∧ Seven w b (o + i * 7) l[i] := by
  have hne : l.flatMap scells ≠ [] := fun e => by
    have := scells_len l
    rw [e] at this
    simp at this
    omega
  obtain ⟨b, o, hA, hb, hc⟩ := h hne
  have g := fun j (hj : j < 7) => scells_get l i hi j hj
  refine ⟨b, o, hA, hb, ?_, ?_, ?_, ?_, ?_, ?_, ?_⟩
  · exact hc _ _ (g 0 (by omega))
  · rw [Nat.add_assoc]; exact hc _ _ (g 1 (by omega))
  · rw [Nat.add_assoc]; exact hc _ _ (g 2 (by omega))
  · rw [Nat.add_assoc]; exact hc _ _ (g 3 (by omega))
  · rw [Nat.add_assoc]; exact hc _ _ (g 4 (by omega))
  · rw [Nat.add_assoc]; exact hc _ _ (g 5 (by omega))
  · rw [Nat.add_assoc]; exact hc _ _ (g 6 (by omega))
theorem Seven.fresh {w w' : World} {b o : Nat} {s : Stp} (h : Seven w b o s) (F : Fresh w w') : Seven w' b o s := by
  have k : ∀ j u, w.cell? ⟨b, j, none⟩ = some u → w'.cell? ⟨b, j, none⟩ = some u := fun j u hu => (F.cell (World.block_lt_of_cell? _ _ hu) (fun f => f)).trans hu
  exact ⟨k _ _ h.1, k _ _ h.2.1, k _ _ h.2.2.1, k _ _ h.2.2.2.1, k _ _ h.2.2.2.2.1, k _ _ h.2.2.2.2.2.1, k _ _ h.2.2.2.2.2.2⟩
theorem seven_blk {w : World} {b : Nat} {t : TypeId} {s : Stp} (h : Blk w b t (scells s).toArray) : Seven w b 0 s := ⟨h.cell 0, h.cell 1, h.cell 2, h.cell 3, h.cell 4, h.cell 5, h.cell 6⟩
/-- as the arguments are read -/
abbrev Raw : Type := Int × (Int × Int × Int × Int × Nat) × (Option Addr × Nat × List Int)
def wf5 : (Int × Int × Int × Int × Nat) → List Value := fun a => [.int .i64 a.1] ++ ([.int .i64 a.2.1] ++ ([.int .i64 a.2.2.1] ++ ([.int .i64 a.2.2.2.1] ++ [.float .f64 a.2.2.2.2])))
def wq5 : (Int × Int × Int × Int × Nat) → Prop := fun a => (Lit.int .i64 a.1).wf = true ∧ (Lit.int .i64 a.2.1).wf = true ∧ (Lit.int .i64 a.2.2.1).wf = true ∧ (Lit.int .i64 a.2.2.2.1).wf = true ∧ (Lit.float .f64 a.2.2.2.2).wf = true
def toWt (a : Int × Int × Int × Int × Nat) : Wt := ⟨a.1, a.2.1, a.2.2.1, a.2.2.2.1, a.2.2.2.2⟩
def i1f : Int → List Value := fun n => [.int .i64 n]
def i1q : Int → Prop := fun n => (Lit.int .i64 n).wf = true
def sf7 : Raw → List Value := fun a => [.int .i64 a.1] ++ (wf5 a.2.1 ++ [sv a.2.2])
def sq7 (w : World) : Raw → Prop := fun a => (Lit.int .i64 a.1).wf = true ∧ wq5 a.2.1 ∧ IsL w 8 i1f i1q a.2.2
def toStp (a : Raw) : Stp := ⟨a.1, toWt a.2.1, a.2.2⟩
theorem map_stp (l : List Raw) : l.flatMap sf7 = (l.map toStp).flatMap scells := by
  induction l with
  | nil => rfl
  | cons x r ih => rw [List.flatMap_cons, List.map_cons, List.flatMap_cons, ih]; rfl
theorem map_wt (l : List (Int × Int × Int × Int × Nat)) : l.flatMap wf5 = (l.map toWt).flatMap wcells := by
  induction l with
  | nil => rfl
  | cons x r ih => rw [List.flatMap_cons, List.map_cons, List.flatMap_cons, ih]; rfl
/-- what is known of a step that came in -/
structure StpOk (w : World) (s : Stp) : Prop where
  wid : (Lit.int .i64 s.x.id).wf = true
  word : s.x.score < 18446744073709551616
  le : s.left.2.2.length ≤ s.left.2.1
  most : s.left.2.1 ≤ maxLen
  rd : Rd w w.heap.size s.left.1 (s.left.2.2.map (Value.int .i64))
theorem i1_map (zs : List Int) : zs.flatMap i1f = zs.map (Value.int .i64) := by
  induction zs with
  | nil => rfl
  | cons x r ih => rw [List.flatMap_cons, List.map_cons, ih]; rfl
theorem stp_ok {w : World} {l : List Raw} (h : ∀ x ∈ l, sq7 w x) : ∀ s ∈ l.map toStp, StpOk w s := by
  intro s hs
  obtain ⟨a, ha, rfl⟩ := List.mem_map.1 hs
  obtain ⟨_, hw, hl⟩ := h a ha
  have := hw.2.2.2.2
  exact ⟨hw.1, by simpa [Lit.wf, toStp, toWt] using this, hl.le, hl.most, by rw [← i1_map]; exact hl.rd⟩
end Go.Proofs.Ythofodjklogfgaa

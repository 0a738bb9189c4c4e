/- A region that draws its order, inside a fence, of operations each of which comes to the same whatever came up ahead of it: any order comes to the same end. No program is named here. -/
import Derived.OrdersIn
import Derived.Laws.NewFold
import Derived.TacticsIn
namespace Go.Proofs.Ytlceembcehokoaa.Rc
set_option maxRecDepth 100000

section
variable {F : Fence} {n : Nat} {P : Program} {ops : Array Oper} {Q : Exit → Act → World → Prop} {md : Region.Mode}

/-- all that the operations that have come up wait for has come up -/
def Closed (md : Region.Mode) (ops : Array Oper) (L : Array Bool) : Prop := ∀ j o, ops[j]? = some o → L.getD j false = true → ∀ e ∈ o.after, Region.binds md e = true → L.getD e.on false = true
theorem getD_set_eq {L : Array Bool} {i : Nat} (h : i < L.size) (d : Bool) : (L.setIfInBounds i true).getD i d = true := by
  simp [Array.getD, h]
theorem getD_set_ne {L : Array Bool} {i j : Nat} (h : i ≠ j) (d : Bool) : (L.setIfInBounds i true).getD j d = L.getD j d := by
  unfold Array.getD
  simp only [Array.size_setIfInBounds]
  split
  · rename_i hj
    exact Array.getElem_setIfInBounds_ne (by simpa using hj) h
  · rfl
theorem getD_set_mono {L : Array Bool} {i j : Nat} (h : L.getD j false = true) : (L.setIfInBounds i true).getD j false = true := by
  by_cases hij : i = j
  · subst hij
    refine getD_set_eq ?_ _
    rcases Nat.lt_or_ge i L.size with hl | hl
    · exact hl
    · simp [Array.getD, Nat.not_lt.2 hl] at h
  · rw [getD_set_ne hij]; exact h
theorem Closed.set {L : Array Bool} {i : Nat} {o : Oper} (h : Closed md ops L) (hi : ops[i]? = some o) (hd : ∀ e ∈ o.after, Region.binds md e = true → L.getD e.on false = true) : Closed md ops (L.setIfInBounds i true) := by
  intro j oj hj hl e he hb
  by_cases hij : i = j
  · subst hij
    rw [hi] at hj
    injection hj with hj
    subst hj
    exact getD_set_mono (hd e he hb)
  · rw [getD_set_ne hij] at hl
    exact getD_set_mono (h j oj hj hl e he hb)
/-- how many have not come up -/
def left (L : Array Bool) : Nat := L.toList.countP (fun b => !b)
theorem left_set {L : Array Bool} {i : Nat} (hi : i < L.size) (h : L.getD i false = false) : left (L.setIfInBounds i true) + 1 = left L := by
  have hb : L[i] = false := by simpa [Array.getD, hi] using h
  unfold left
  rw [Array.toList_setIfInBounds, List.countP_set (by simpa using hi)]
  have hg : L.toList[i]'(by simpa using hi) = false := by simpa using hb
  have hp : 0 < L.toList.countP (fun b => !b) := by
    rw [List.countP_pos_iff]
    exact ⟨false, by rw [← hg]; exact List.getElem_mem _, rfl⟩
  generalize L.toList.countP (fun b => !b) = c at hp ⊢
  rw [hg]
  simp
  omega
theorem all_of_left {L : Array Bool} (h : left L = 0) : ∀ i, i < L.size → L.getD i false = true := by
  intro i hi
  unfold left at h
  rw [List.countP_eq_zero] at h
  have := h L[i] (by simp)
  simpa [Array.getD, hi] using this
theorem eq_all {L : Array Bool} (h : ∀ i, i < L.size → L.getD i false = true) : L = Array.replicate L.size true := by
  apply Array.ext
  · simp
  · intro i h1 h2
    have := h i h1
    simpa [Array.getD, h1] using this
theorem ready_nil_of_all {L : Array Bool} (hs : L.size = ops.size) (h : ∀ i, i < L.size → L.getD i false = true) : Region.ready md ops L = [] := by
  rw [List.eq_nil_iff_forall_not_mem]
  intro i hi
  obtain ⟨h1, o, ho, _⟩ := mem_ready.1 hi
  have hlt : i < L.size := by rw [hs]; exact (Array.getElem?_eq_some_iff.1 ho).1
  have := h i hlt
  simp [Array.getD, hlt] at h1 this
  rw [h1] at this
  cases this
theorem all_of_ready_nil {L : Array Bool} (hs : L.size = ops.size) (early : ∀ (i : Nat) (o : Oper), ops[i]? = some o → ∀ e ∈ o.after, e.on < i) (h : Region.ready md ops L = []) : ∀ i, i < L.size → L.getD i false = true := by
  intro i
  induction i using Nat.strongRecOn with
  | ind i ih =>
    intro hi
    rcases Bool.eq_false_or_eq_true (L.getD i false) with hb | hb
    · exact hb
    · exfalso
      obtain ⟨o, ho⟩ : ∃ o, ops[i]? = some o := ⟨ops[i]'(by omega), by simp [show i < ops.size by omega]⟩
      have : i ∈ Region.ready md ops L := by
        rw [mem_ready]
        refine ⟨?_, o, ho, fun e he _ => ?_⟩
        · simpa [Array.getD, hi] using hb
        · have := early i o ho e he
          exact ih e.on this (by omega)
      rw [h] at this
      cases this
theorem wpAnyIn_rel (R : Array Bool → Act → World → Prop)
    (step : ∀ (L : Array Bool) (i : Nat) (a : Act) (w : World), L.size = ops.size → Closed md ops L → i < ops.size → L.getD i false = false → (∀ (o : Oper), ops[i]? = some o → ∀ e ∈ o.after, Region.binds md e = true → L.getD e.on false = true) → R L a w →
      wpOpIn F n P ops Q i (fun a' w' => R (L.setIfInBounds i true) a' w') a w)
    (early : ∀ (i : Nat) (o : Oper), ops[i]? = some o → ∀ e ∈ o.after, e.on < i)
    (fin : ∀ a w, R (Array.replicate ops.size true) a w → Q .normal a w) :
    ∀ fuel L a w, L.size = ops.size → Closed md ops L → left L ≤ fuel → R L a w → wpAnyIn F n P md ops Q fuel L a w := by
  intro fuel
  induction fuel with
  | zero =>
    intro L a w hs hc hl hS
    have hall := all_of_left (L := L) (by omega)
    refine ⟨ready_nil_of_all hs hall, ?_⟩
    have he := eq_all hall
    rw [hs] at he
    rw [he] at hS
    exact fin a w hS
  | succ fuel ih =>
    intro L a w hs hc hl hS
    refine ⟨fun hr => ?_, fun i hi => ?_⟩
    · have he := eq_all (all_of_ready_nil hs early hr)
      rw [hs] at he
      rw [he] at hS
      exact fin a w hS
    · obtain ⟨h1, o, ho, hd⟩ := mem_ready.1 hi
      have hlt : i < L.size := by rw [hs]; exact (Array.getElem?_eq_some_iff.1 ho).1
      have h0 : L.getD i false = false := by simpa [Array.getD, hlt] using h1
      refine wpOpIn_mono ?_ (step L i a w hs hc (by omega) h0 (fun o' ho' => by rw [ho] at ho'; injection ho' with ho'; subst ho'; exact hd) hS)
      intro a' w' hS'
      exact ih _ _ _ (by simpa using hs) (hc.set ho hd) (by have := left_set hlt h0; omega) hS'
/-- the region, from its beginning: what holds of its states, one operation after another -/
theorem wpIn_region_rel {id : Nat} {a : Act} {w : World} (hm : P.follows .mixedOrders = true) (R : Array Bool → Act → World → Prop)
    (hS : R (Array.replicate ops.size false) a w.drew)
    (early : ∀ (i : Nat) (o : Oper), ops[i]? = some o → ∀ e ∈ o.after, e.on < i)
    (step : ∀ (L : Array Bool) (i : Nat) (a : Act) (w : World), L.size = ops.size → Closed .any ops L → i < ops.size → L.getD i false = false → (∀ (o : Oper), ops[i]? = some o → ∀ e ∈ o.after, Region.binds .any e = true → L.getD e.on false = true) → R L a w →
      wpOpIn F n P ops Q i (fun a' w' => R (L.setIfInBounds i true) a' w') a w)
    (fin : ∀ a w, R (Array.replicate ops.size true) a w → Q .normal a w) : (Code.region id ops true).wpIn F n P Q a w := by
  refine wpIn_region_any hm ?_
  refine wpAnyIn_rel R step early fin ops.size _ _ _ (by simp) ?_ ?_ hS
  · intro j o ho hl
    exfalso
    simp [Array.getD] at hl
  · unfold left
    exact Nat.le_trans (List.countP_le_length) (by simp)
/-- the region, from its beginning -/
theorem wpIn_region_conf {id : Nat} {a : Act} {w : World} (hm : P.follows .mixedOrders = true) (fr : Array Bool → Act) (S : Array Bool → World → Prop)
    (h0 : a = fr (Array.replicate ops.size false)) (hS : S (Array.replicate ops.size false) w.drew)
    (early : ∀ (i : Nat) (o : Oper), ops[i]? = some o → ∀ e ∈ o.after, e.on < i)
    (step : ∀ (L : Array Bool) (i : Nat) (w : World), L.size = ops.size → Closed .any ops L → i < ops.size → L.getD i false = false → (∀ (o : Oper), ops[i]? = some o → ∀ e ∈ o.after, Region.binds .any e = true → L.getD e.on false = true) → S L w →
      wpOpIn F n P ops Q i (fun a' w' => a' = fr (L.setIfInBounds i true) ∧ S (L.setIfInBounds i true) w') (fr L) w)
    (fin : ∀ w, S (Array.replicate ops.size true) w → Q .normal (fr (Array.replicate ops.size true)) w) : (Code.region id ops true).wpIn F n P Q a w := by
  refine wpIn_region_rel hm (fun L a w => a = fr L ∧ S L w) ⟨h0, hS⟩ early ?_ (fun a w ⟨h1, h2⟩ => h1 ▸ fin w h2)
  rintro L i a w hs hc hi h1 hd ⟨rfl, h2⟩
  exact step L i w hs hc hi h1 hd h2
def earlyB (ops : Array Oper) : Bool := (List.range ops.size).all fun i => match ops[i]? with
  | none => true
  | some o => o.after.toList.all fun e => decide (e.on < i)
theorem early_of (h : earlyB ops = true) : ∀ (i : Nat) (o : Oper), ops[i]? = some o → ∀ e ∈ o.after, e.on < i := by
  intro i o ho e he
  unfold earlyB at h
  rw [List.all_eq_true] at h
  have h1 := h i (List.mem_range.2 (Array.getElem?_eq_some_iff.1 ho).1)
  rw [ho] at h1
  simp only [List.all_eq_true] at h1
  have := h1 e (by simpa using he)
  simpa using this
theorem uponIn_then {o : Oper} {a : Act} {K K' : Act → World → Prop} {r : Result Next} (h : o.uponIn F n P a K (Exit.then K' Q) r) : o.uponIn F n P a K Q r := by
  cases r with
  | ok x w' => cases x <;> exact h
  | halt x w' => cases x <;> exact h
/-- one operation, walked as a list of one -/
theorem wpOpIn_list {i : Nat} {o : Oper} {a : Act} {w : World} {K : Act → World → Prop} (ho : ops[i]? = some o)
    (h : ∀ K' : Act → World → Prop, (∀ a w, K a w → K' a w) → wpListIn F n P ops (Exit.then K' Q) [o] a w) : wpOpIn F n P ops Q i K a w := by
  have h1 := h K (fun _ _ h => h)
  unfold wpOpIn
  simp only [ho]
  unfold wpListIn at h1
  split
  · rename_i hw
    rw [if_pos hw] at h1
    exact ⟨h1.1, uponIn_then h1.2⟩
  · rename_i hw
    rw [if_neg hw] at h1
    exact h1
end
/-- what stands in an operation's slot: its value, if it has come up -/
def slot (L : Array Bool) (j : Nat) (v u : Value) : Value := bif L.getD j false then v else u
theorem slot_yes {L : Array Bool} {j : Nat} (h : L.getD j false = true) (v u : Value) : slot L j v u = v := by unfold slot; rw [h]; rfl
theorem slot_set_ne {L : Array Bool} {i j : Nat} (h : i ≠ j) (v u : Value) : slot (L.setIfInBounds i true) j v u = slot L j v u := by unfold slot; rw [getD_set_ne h]
theorem slot_set_eq {L : Array Bool} {i : Nat} (h : i < L.size) (v u : Value) : slot (L.setIfInBounds i true) i v u = v := slot_yes (getD_set_eq h _) v u
theorem slot_all {n j : Nat} (h : j < n) (v u : Value) : slot (Array.replicate n true) j v u = v := slot_yes (by simp [Array.getD, h]) v u
theorem slot_no {L : Array Bool} {j : Nat} (h : L.getD j false = false) (v u : Value) : slot L j v u = u := by unfold slot; rw [h]; rfl
theorem slot_none {n j : Nat} (v u : Value) : slot (Array.replicate n false) j v u = u := by unfold slot; simp [Array.getD]
end Go.Proofs.Ytlceembcehokoaa.Rc

/- How the arguments of a law are opened, whatever their types: of each type what its cells are, out of those of its parts. No program is named here. -/
import Derived.Test.YtlceembcehokoaaOpen
import Derived.Lib.SmallJoins
namespace Go.Proofs.Ytlceembcehokoaa
open Go.RowKit Go.ChangeShapes Go.WideShapes

/-- Whatever cells read as something of a type are the cells f a of a datum a of which Q holds. -/
def Reads {H : Type} (enc : TypeId × Value → H) (P : Program) (W : World) (t : TypeId) {α : Type} (f : α → List Value) (Q : α → Prop) : Prop :=
  ∀ fuel cs x, DataW.trod enc P W 0 (fun _ => true) true fuel t cs = some x → (∀ n ∈ x.1.weights P t, n ≤ reachBytes) → ∃ a, cs = f a ∧ Q a

section
variable {H : Type} {enc : TypeId × Value → H} {P : Program} {W : World} {t e : TypeId}

theorem reads_int {k : IntKind} (ht : P.underlying t = some (.int k)) : Reads enc P W t (fun n : Int => [.int k n]) (fun n => (Lit.int k n).wf = true) := by
  intro fuel cs x h _
  obtain ⟨m, rfl, rfl, hw⟩ := DataW.trod_int ht h
  exact ⟨m, rfl, hw⟩
theorem reads_bool (ht : P.underlying t = some .bool) : Reads enc P W t (fun b : Bool => [.bool b]) (fun _ => True) := by
  intro fuel cs x h _
  cases fuel with
  | zero => simp [DataW.trod] at h
  | succ n =>
    unfold DataW.trod at h
    rw [ht] at h
    split at h <;> simp_all
theorem reads_float {k : FloatKind} (ht : P.underlying t = some (.float k)) : Reads enc P W t (fun b : Nat => [.float k b]) (fun b => (Lit.float k b).wf = true) := by
  intro fuel cs x h _
  cases fuel with
  | zero => simp [DataW.trod] at h
  | succ n =>
    unfold DataW.trod at h
    rw [ht] at h
    split at h <;> simp_all
theorem reads_string (ht : P.underlying t = some .string) : Reads enc P W t (fun s : ByteArray => [.string s]) (fun s => s.size ≤ maxLen ∧ s.size ≤ reachBytes) := by
  intro fuel cs x h hz
  obtain ⟨s, rfl, rfl, h1⟩ := DataW.trod_string ht h
  exact ⟨s, rfl, h1, hz _ (by simp [DataW.weights])⟩

/-! ### A slice -/
/-- a slice as a value -/
def sv {α : Type} (s : Option Addr × Nat × List α) : Value := .slice s.1 s.2.2.length s.2.1
structure IsL (W : World) (by_ : Nat) {α : Type} (f : α → List Value) (Q : α → Prop) (s : Option Addr × Nat × List α) : Prop where
  le : s.2.2.length ≤ s.2.1
  most : s.2.1 ≤ maxLen
  none_ : s.1 = none → s.2.1 = 0
  rd : Rd W W.heap.size s.1 (s.2.2.flatMap f)
  all : ∀ x ∈ s.2.2, Q x
  reach : s.2.1 * by_ ≤ reachBytes

theorem weights_mem_all {ds : List (DataW H)} {d : DataW H} (hd : d ∈ ds) : ∀ n ∈ d.weights P e, n ∈ DataW.weightsAll P e ds := by
  intro n hn
  induction ds with
  | nil => simp at hd
  | cons c r ih =>
    rw [DataW.weightsAll, List.mem_append]
    rcases List.mem_cons.1 hd with rfl | h
    · exact .inl hn
    · exact .inr (ih h)
theorem flatMap_get {α : Type} (f : α → List Value) (size : Nat) : ∀ (xs : List α), (∀ a ∈ xs, (f a).length = size) → ∀ (j : Nat) (u : Value), (xs.flatMap f)[j]? = some u → ∃ i a, xs[i]? = some a ∧ i * size ≤ j ∧ j < (i + 1) * size ∧ (f a)[j - i * size]? = some u := by
  intro xs
  induction xs with
  | nil => intro _ j u h; simp at h
  | cons x r ih =>
    intro hl j u h
    rw [List.flatMap_cons, List.getElem?_append] at h
    split at h
    · rename_i hj
      rw [hl x (by simp)] at hj
      exact ⟨0, x, rfl, by omega, by omega, by simpa using h⟩
    · rename_i hj
      rw [hl x (by simp)] at hj h
      obtain ⟨i, a, h1, h2, h3, h4⟩ := ih (fun a ha => hl a (by simp [ha])) _ _ h
      refine ⟨i + 1, a, h1, ?_, ?_, ?_⟩
      · rw [Nat.add_mul]; omega
      · rw [Nat.add_mul]; omega
      · rw [Nat.add_mul, Nat.one_mul, show j - (i * size + size) = j - size - i * size by omega]; exact h4
theorem flatMap_len {α : Type} {f : α → List Value} {size : Nat} : ∀ (xs : List α), (∀ a ∈ xs, (f a).length = size) → (xs.flatMap f).length = xs.length * size
  | [], _ => by simp
  | x :: r, h => by
    rw [List.flatMap_cons, List.length_append, h x (by simp), flatMap_len r (fun a ha => h a (by simp [ha])), List.length_cons, Nat.add_mul]
    omega
theorem list_of {α : Type} {R : Nat → α → Prop} : ∀ n, (∀ i, i < n → ∃ a, R i a) → ∃ xs : List α, xs.length = n ∧ ∀ i a, xs[i]? = some a → R i a
  | 0, _ => ⟨[], rfl, fun i a h => by simp at h⟩
  | n + 1, h => by
    obtain ⟨xs, h1, h2⟩ := list_of n (fun i hi => h i (by omega))
    obtain ⟨a, ha⟩ := h n (by omega)
    refine ⟨xs ++ [a], by simp [h1], fun i b hb => ?_⟩
    rw [List.getElem?_append] at hb
    split at hb
    · exact h2 i b hb
    · rename_i hi
      have : i - xs.length = 0 := by
        have := (List.getElem?_eq_some_iff.1 hb).1
        simp at this
        omega
      rw [this] at hb
      simp at hb
      subst hb
      rw [show i = n by omega]
      exact ha
theorem reads_slice {α : Type} {f : α → List Value} {Q : α → Prop} {size by_ : Nat} (ht : P.underlying t = some (.slice e)) (hc : P.cellsOf e = size) (hby : P.bytesOf e = by_) (hsz : 0 < size) (hl : ∀ a, Q a → (f a).length = size)
    (hr : Reads enc P W e f Q) : Reads enc P W t (fun s => [sv s]) (IsL W by_ f Q) := by
  intro fuel cs x h hz
  rcases DataW.trod_slice ht h with ⟨rfl, rfl⟩ | ⟨a, len, cap, elems, rest, n, _, rfl, rfl, hb, hle, hm, hlen, hel, hsp, hns⟩
  · exact ⟨(none, 0, []), rfl, ⟨by simp, by simp [maxLen], fun _ => rfl, Rd.nil _ _ _, by simp, by simp⟩⟩
  · have hrest := (hsp rfl).1
    have hw0 : (elems.length + rest.length) * by_ ≤ reachBytes := by
      have := hz ((elems.length + rest.length) * P.bytesOf e) (by simp [DataW.weights, ht])
      rwa [hby] at this
    have hwe : ∀ y ∈ elems, ∀ n ∈ y.1.weights P e, n ≤ reachBytes := fun y hy n hn => hz n (by
      simp only [DataW.weights, ht, List.mem_cons, List.mem_append]
      exact .inr (.inl (weights_mem_all (List.mem_map.2 ⟨y, hy, rfl⟩) n hn)))
    have key : ∀ i, i < len → ∃ y, Q y ∧ W.cells? 0 (a.add (i * size)) size = some (f y) := by
      intro i hi
      have h1 := hel i hi
      rw [hc, List.getElem?_eq_getElem (by omega), Option.bind_eq_some_iff] at h1
      obtain ⟨cs', h2, h3⟩ := h1
      obtain ⟨y, rfl, hq⟩ := hr _ _ _ h3 (hwe _ (List.getElem_mem _))
      exact ⟨y, hq, h2⟩
    obtain ⟨xs, hxl, hxs⟩ := list_of len key
    refine ⟨(some a, cap, xs), by simp [sv, hxl], ⟨by simp [hxl, hle], hm, fun h => (by cases h), fun hne => ?_, fun y hy => ?_, ?_⟩⟩
    · have h0 : 0 < len := by
        rcases Nat.eq_zero_or_pos len with h0 | h0
        · have := List.eq_nil_of_length_eq_zero (hxl.trans h0)
          subst this
          simp at hne
        · exact h0
      have cell : ∀ i y j u, xs[i]? = some y → (f y)[j]? = some u → W.cell? (a.add (i * size + j)) = some u := by
        intro i y j u hy hu
        have h1 := (hxs i y hy).2
        have h2 := (World.cells?_some h1).2.2 j (by
          have := (List.getElem?_eq_some_iff.1 hu).1
          rw [hl y (hxs i y hy).1] at this
          exact this)
        rw [show (a.add (i * size)).add j = a.add (i * size + j) from by unfold Addr.add; split <;> split <;> simp_all [Nat.add_assoc]] at h2
        rw [h2]
        exact hu
      obtain ⟨y0, hy0⟩ : ∃ y, xs[0]? = some y := ⟨xs[0], List.getElem?_eq_getElem (by omega)⟩
      obtain ⟨u0, hu0⟩ : ∃ u, (f y0)[0]? = some u := ⟨(f y0)[0]'(by rw [hl y0 (hxs 0 y0 hy0).1]; exact hsz), List.getElem?_eq_getElem _⟩
      have c0 := cell 0 y0 0 u0 hy0 hu0
      obtain ⟨b, off, spot⟩ := a
      have hspot : spot = none := by simpa [Addr.add] using World.cell?_spot c0
      subst hspot
      have hbl : b < W.heap.size := by
        have := World.block_lt_of_cell? W _ c0
        simpa [Addr.add_lit] using this
      refine ⟨b, off, rfl, hbl, fun j u hu => ?_⟩
      obtain ⟨i, y, h1, h2, h3, h4⟩ := flatMap_get f size xs (fun a ha => by obtain ⟨i, hi⟩ := List.getElem?_of_mem ha; exact hl a (hxs i a hi).1) j u hu
      have := cell i y _ u h1 h4
      rw [Addr.add_lit] at this
      rw [show i * size + (j - i * size) = j by omega] at this
      exact this
    · obtain ⟨i, hi⟩ := List.getElem?_of_mem hy
      exact (hxs i y hi).1
    · have : elems.length + rest.length = cap := by omega
      rwa [this] at hw0

/-! ### Structs, arrays -/
def ReadsF {H : Type} (enc : TypeId × Value → H) (P : Program) (W : World) (fs : List Field) (off size : Nat) {α : Type} (f : α → List Value) (Q : α → Prop) : Prop :=
  ∀ (fuel : Nat) (cs : List Value) (xs : List (DataW H × List MemPlace)), xs.length = fs.length → (∀ (i : Nat) (fd : Field), fs[i]? = some fd → DataW.trod enc P W 0 (fun _ => true) true fuel fd.type ((cs.drop fd.offset).take (P.cellsOf fd.type)) = xs[i]?) →
    (∀ n ∈ DataW.weightsEach P (fs.map (·.type)) (xs.map (·.1)), n ≤ reachBytes) → ∃ a, (cs.drop off).take size = f a ∧ Q a
theorem readsF_one {fd : Field} {t0 : TypeId} {α : Type} {f : α → List Value} {Q : α → Prop} {off size : Nat} (hr : Reads enc P W t0 f Q) (h0 : fd.type = t0) (h1 : fd.offset = off) (hc : P.cellsOf t0 = size) : ReadsF enc P W [fd] off size f Q := by
  subst h0 h1 hc
  intro fuel cs xs hl h hz
  obtain ⟨x, rfl⟩ : ∃ x, xs = [x] := by
    match xs, hl with
    | [x], _ => exact ⟨x, rfl⟩
  exact hr _ _ x (by simpa using h 0 fd rfl) (fun n hn => hz n (by simpa [DataW.weightsEach] using hn))
theorem readsF_cons {fd : Field} {fs : List Field} {t0 : TypeId} {α β : Type} {f : α → List Value} {Q : α → Prop} {g : β → List Value} {R : β → Prop} {off0 s0 off size total : Nat} (hr : Reads enc P W t0 f Q) (h0 : fd.type = t0) (h1 : fd.offset = off0) (hc : P.cellsOf t0 = s0) (ho : off = off0 + s0) (ht : total = s0 + size)
    (hF : ReadsF enc P W fs off size g R) : ReadsF enc P W (fd :: fs) off0 total (fun a : α × β => f a.1 ++ g a.2) (fun a => Q a.1 ∧ R a.2) := by
  subst h0 h1 hc ht
  intro fuel cs xs hl h hz
  obtain ⟨x, r, rfl⟩ : ∃ x r, xs = x :: r := by
    match xs, hl with
    | x :: r, _ => exact ⟨x, r, rfl⟩
  obtain ⟨a, h1, q1⟩ := hr _ _ x (by simpa using h 0 fd rfl) (fun n hn => hz n (by simp [DataW.weightsEach, hn]))
  obtain ⟨b, h2, q2⟩ := hF fuel cs r (by simpa using hl) (fun i fd' hi => by simpa using h (i + 1) fd' (by simpa using hi)) (fun n hn => hz n (by simp only [List.map_cons, DataW.weightsEach, List.mem_append]; exact .inr hn))
  refine ⟨(a, b), ?_, q1, q2⟩
  show _ = f a ++ g b
  rw [← h1, ← h2, ho, List.take_add, List.drop_drop]
theorem reads_struct {fs : Array Field} {α : Type} {f : α → List Value} {Q : α → Prop} (ht : P.underlying t = some (.struct fs)) (hF : ReadsF enc P W fs.toList 0 (P.cellsOf t) f Q) : Reads enc P W t f Q := by
  intro fuel cs x h hz
  obtain ⟨xs, n, _, rfl, hl, hlen, hf⟩ := DataW.trod_struct ht h
  obtain ⟨a, h1, q⟩ := hF n cs xs (by simpa using hlen) (fun i fd hi => hf i fd (by simpa using hi)) (fun m hm => hz m (by
    simp only [DataW.weights, ht]
    exact hm))
  refine ⟨a, ?_, q⟩
  rw [← h1, List.drop_zero, List.take_of_length_le (by omega)]
theorem reads_array {n size : Nat} {α : Type} {f : α → List Value} {Q : α → Prop} (ht : P.underlying t = some (.array n e)) (hc : P.cellsOf e = size) (hC : P.cellsOf t = n * size) (hr : Reads enc P W e f Q) :
    Reads enc P W t (fun xs : List α => xs.flatMap f) (fun xs => xs.length = n ∧ ∀ x ∈ xs, Q x) := by
  intro fuel cs x h hz
  cases fuel with
  | zero => simp [DataW.trod] at h
  | succ m =>
    rw [DataW.trod_step] at h
    unfold DataW.trodStep at h
    simp only [ht] at h
    split at h
    · rename_i hcs
      simp only [Option.map_eq_some_iff] at h
      obtain ⟨ys, hy, rfl⟩ := h
      rw [hC] at hcs
      rw [hc] at hy
      have hz' : ∀ y ∈ ys, ∀ k ∈ y.1.weights P e, k ≤ reachBytes := fun y hy k hk => hz k (by
        simp only [DataW.weights, ht]
        exact weights_mem_all (List.mem_map.2 ⟨y, hy, rfl⟩) k hk)
      -- the cells from the k-th element on
      have go : ∀ (l : List Nat) (k : Nat) (ys : List (DataW H × List MemPlace)), l = (List.range' k (n - k)) → k ≤ n → l.mapM (fun i => DataW.trod enc P W 0 (fun _ => true) true m e ((cs.drop (i * size)).take size)) = some ys → (∀ y ∈ ys, ∀ k ∈ y.1.weights P e, k ≤ reachBytes) →
          ∃ xs : List α, xs.length = n - k ∧ cs.drop (k * size) = xs.flatMap f ∧ ∀ x ∈ xs, Q x := by
        intro l
        induction l with
        | nil =>
          intro k ys hl hk _ _
          have hn : n - k = 0 := by
            have := congrArg List.length hl
            simp at this
            omega
          have : k = n := by omega
          subst this
          exact ⟨[], by simp, by simp [hcs], by simp⟩
        | cons i l ih =>
          intro k ys hl hk hy hz
          have hn : 0 < n - k := by
            rcases Nat.eq_zero_or_pos (n - k) with h0 | h0
            · rw [h0] at hl; simp at hl
            · exact h0
          rw [show n - k = (n - (k + 1)) + 1 by omega, List.range'_succ] at hl
          injection hl with hi hl
          subst hi
          rw [List.mapM_cons] at hy
          simp only [bind, Option.bind_eq_some_iff, pure, Option.some.injEq] at hy
          obtain ⟨y, hy1, ys', hy2, rfl⟩ := hy
          obtain ⟨a, h1, q⟩ := hr _ _ _ hy1 (hz y (by simp))
          obtain ⟨xs, h2, h3, h4⟩ := ih (i + 1) ys' hl (by omega) hy2 (fun y hy => hz y (by simp [hy]))
          refine ⟨a :: xs, by simp [h2]; omega, ?_, ?_⟩
          · rw [List.flatMap_cons, ← h1, ← h3, Nat.add_mul, Nat.one_mul, ← List.drop_drop, List.take_append_drop]
          · intro x hx
            rcases List.mem_cons.1 hx with rfl | h
            · exact q
            · exact h4 x h
      obtain ⟨xs, h1, h2, h3⟩ := go (List.range n) 0 ys (by simp [List.range_eq_range']) (Nat.zero_le _) hy hz'
      exact ⟨xs, by simpa using h2, by simpa using h1, h3⟩
    · cases h

/-! ### Arguments -/
variable {v : Value} {d : DataW H} {p : List MemPlace}
theorem open_cells {α : Type} {f : α → List Value} {Q : α → Prop} (hr : Reads enc P W t f Q) (h : DataW.Trod enc P W 0 (fun _ => true) true t v d p) (hz : ∀ n ∈ d.weights P t, n ≤ reachBytes) : ∃ a, v.cells.toList = f a ∧ Q a := by
  obtain ⟨fuel, hf⟩ := h
  exact hr fuel _ _ hf hz
theorem open_slice_arg {α : Type} {base : Nat} {Q : (Option Addr × Nat × List α) → Prop} (ht : P.underlying t = some (.slice e)) (hr : Reads enc P W t (fun s => [sv s]) Q) (hv : Value.okWide P W .any base t v) (h : DataW.Trod enc P W 0 (fun _ => true) true t v d p) (hz : ∀ n ∈ d.weights P t, n ≤ reachBytes) :
    ∃ s, v = sv s ∧ Q s := by
  obtain ⟨a0, len, cap, rfl⟩ := okWide_slice ht hv
  obtain ⟨s, hs, q⟩ := open_cells hr h hz
  exact ⟨s, by simpa [Value.cells] using hs, q⟩
theorem open_struct_arg {α : Type} {base : Nat} {fs : Array Field} {f : α → List Value} {Q : α → Prop} (ht : P.underlying t = some (.struct fs)) (hr : Reads enc P W t f Q) (hv : Value.okWide P W .any base t v) (h : DataW.Trod enc P W 0 (fun _ => true) true t v d p) (hz : ∀ n ∈ d.weights P t, n ≤ reachBytes) :
    ∃ a, v = .agg (f a).toArray ∧ Q a := by
  obtain ⟨cs, rfl, _⟩ := okWide_struct ht hv
  obtain ⟨a, ha, q⟩ := open_cells hr h hz
  refine ⟨a, ?_, q⟩
  rw [← ha]
  simp [Value.cells]
theorem open_array_arg {α : Type} {base n : Nat} {f : α → List Value} {Q : α → Prop} (ht : P.underlying t = some (.array n e)) (hr : Reads enc P W t f Q) (hv : Value.okWide P W .any base t v) (h : DataW.Trod enc P W 0 (fun _ => true) true t v d p) (hz : ∀ n ∈ d.weights P t, n ≤ reachBytes) :
    ∃ a, v = .agg (f a).toArray ∧ Q a := by
  have hv' := hv
  simp only [Value.okWide, ht] at hv'
  obtain ⟨cs, rfl, _⟩ := hv'
  obtain ⟨a, ha, q⟩ := open_cells hr h hz
  refine ⟨a, ?_, q⟩
  rw [← ha]
  simp [Value.cells]
end
end Go.Proofs.Ytlceembcehokoaa

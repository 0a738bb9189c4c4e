/- Proved here, for the statement TopFairCardSaid: laws that its walk leans on. It holds with no condition. (Put together and shortened by a program out of many texts: NumP, TextP, Reads, Cl1, To1.) -/
import Derived.Test.YtbeaoddjomdlcaaGreatDoorZ02
import Derived.Test.YtbeaoddjomdlcaaGreatDoorZ03
import Derived.Lib.SmallJoins
import Derived.Test.YtbeaoddjomdlcaaGreatDoorZ01
set_option linter.unusedVariables false
set_option linter.unusedSimpArgs false
set_option maxRecDepth 100000
set_option maxHeartbeats 64000000
namespace Go.Proofs.YtbeaoddjomdlcaaGreatDoor
section
open Go.RowKit
theorem info_u8 : (Tryz.prog.info? 5).map (fun i => (i.zero, i.size, i.bytes)) = some (some (.int .u8 0), 1, 1) := by kernel_rfl
theorem bv_eq {x : Int} {b : UInt8} (h : x = (b.toNat : Int)) : Value.int .u8 x = bv b := by rw [h]; rfl
theorem number_any (n : Nat) (hn : n < 18446744073709551616) (w : World) :
    Calls Tryz.prog 86 #[.int .u64 (n : Int)] w fun e w' => ∃ v, e = .returned v ∧ Sl w' w.heap.size 5 1 v (FieldM.num n).length ((FieldM.num n).map bv) ∧ Fresh w w' := by
  obtain ⟨i0, hi, hz0, hz1, hz2⟩ := info_parts info_u8
  have K1 := zh (fun w => Tryz.bits_Len64 (n : Int) w (by omega) (by omega))
  have hw := FieldM.wid_le hn
  have hl : Lib.bitLen n ≤ 64 := by unfold FieldM.wid at hw; omega
  have HW := zh (show ((Lib.bitLen n : Int) + 7) / 8 = (FieldM.wid n : Int) by unfold FieldM.wid; omega)
  clear hn
  go_in
  go_wp2_with fail
  refine (K1.out _).mono ?_
  rintro e w' ⟨rfl, rfl⟩
  rw [Int.toNat_natCast]
  go_wp2_with fail
  go_loopw [3, 4] (fun v3 v4 wr => ∃ r : Nat, r ≤ FieldM.wid n ∧ v3 = .int .i64 (r : Int) ∧ Sl wr w'.heap.size 5 1 v4 (FieldM.wid n - r + 1) ((FieldM.pre n (FieldM.wid n - r)).map bv) ∧ Fresh w' wr) (fun v3 _ _ => (RowKit.intOf v3).toNat)
  case atStart =>
    refine ⟨FieldM.wid n, Nat.le_refl _, by rw [HW.out], ?_, (Frm.refl _ _).alloc _⟩
    rw [Nat.sub_self, FieldM.pre_zero, HW.out]
    have e : Value.int .u8 (FieldM.wid n : Int) = bv (UInt8.ofNat (FieldM.wid n)) := bv_eq (by rw [UInt8.toNat_ofNat']; omega)
    rw [e]
    exact sl_new w' _ [bv (UInt8.ofNat (FieldM.wid n))] _ (Nat.le_refl _) (by simp [maxLen])
  case round =>
    obtain ⟨r, hr, rfl, hsl, hfr⟩ := hrel
    have hsz := hfr.size
    by_cases h0 : 0 < r
    · go_wp2_with (at_builtin; refine wpList_append_sl _ rfl (.tmp 16) (.tmp 22) _ rfl w'.heap.size 5 i0 _ 1 1 Tryz.underlying56 hi hz0 hz1 hz2 rfl (by omega) _ _ _ rfl (hsl.alloc _) _ _ 1 1 _ rfl rfl (rd_one _ _ _) ?c1 ?c2 ?c3 ?c4 ?_)
      case c1 => intro u hu; simp at hu; subst hu; rfl
      case c2 => unfold maxLen; omega
      case c3 => omega
      case c4 => simp; omega
      intro v2 w2 hs2 hf2 _
      have hb : Value.int IntKind.u8 ((n : Int) / 2 ^ (8 * (r - 1)) % 256) = bv (UInt8.ofNat (n / 256 ^ (r - 1) % 256)) := bv_eq (FieldM.shr_byte n (r - 1))
      rw [hb] at hs2 hf2
      have hs3 : Sl w2 w'.heap.size 5 1 v2 (FieldM.wid n - (r - 1) + 1) ((FieldM.pre n (FieldM.wid n - (r - 1))).map bv) := by
        rw [FieldM.pre_step h0 hr, List.map_append, show FieldM.wid n - (r - 1) + 1 = FieldM.wid n - r + 1 + 1 by omega]
        exact hs2
      have hf3 : Fresh w' w2 := (hfr.alloc _).trans' hf2 (fun i hi hk => by have := hsl.lt i hk; omega)
      clear hs2 hf2 hb
      go_wp2
      go_roundw
      case rel => exact ⟨r - 1, by omega, by go_num, hs3, hf3⟩
      case measure => simp [RowKit.intOf]; omega
    · obtain rfl : r = 0 := by omega
      go_wp2
      go_ret
      refine ⟨_, rfl, ?_, hfr⟩
      rw [Nat.sub_zero, FieldM.pre_all] at hsl
      rw [FieldM.num_length]
      exact hsl
theorem text_any (A : Option Addr) (cap : Nat) (bs : List UInt8) (w : World) (hb : Rd w w.heap.size A (bs.map bv)) (hl : bs.length ≤ 140737488351232) :
    Calls Tryz.prog 87 #[.slice A bs.length cap] w fun e w' => ∃ v, e = .returned v ∧ Sl w' w.heap.size 5 1 v (FieldM.text bs).length ((FieldM.text bs).map bv) ∧ Fresh w w' := by
  obtain ⟨i0, hi, hz0, hz1, hz2⟩ := info_parts info_u8
  have hw := FieldM.wid_le (n := bs.length) (by omega)
  have hnl := FieldM.num_length bs.length
  have HNL := zh hnl
  have K := zh (fun w => number_any bs.length (by omega) w)
  clear hnl
  go_in
  go_wp2_with fail
  refine (K.out _).mono ?_
  rintro e w1 ⟨v1, rfl, hs1, hf1⟩
  have hb1 := hb.fresh (Nat.le_refl _) hf1
  have hsz := hf1.size
  go_wp2_with (at_builtin; refine wpList_append_sl _ rfl (.tmp 6) (.tmp 7) _ rfl w.heap.size 5 i0 _ 1 1 Tryz.underlying56 hi hz0 hz1 hz2 rfl (by omega) _ _ _ rfl hs1 _ _ _ _ _ rfl (by simp) hb1 (bv_one _) ?c2 ?c3 hsz ?_)
  case c2 => rw [HNL.out]; unfold maxLen; omega
  case c3 => rw [HNL.out]; omega
  intro v2 w2 hs2 hf2 _
  have hs3 : Sl w2 w.heap.size 5 1 v2 (FieldM.text bs).length ((FieldM.text bs).map bv) := by
    rw [FieldM.text, List.length_append, List.map_append]
    exact hs2
  have hf3 : Fresh w w2 := hf1.trans' hf2 (fun i hi hk => by have := hs1.lt i hk; omega)
  clear hs2 hf2
  go_wp2
  go_ret
  exact ⟨_, rfl, hs3, hf3⟩
end
section
open Go.RowKit Go.ChangeShapes Go.WideShapes
def Reads {H : Type} (enc : TypeId × Value → H) (P : Program) (W : World) (t : TypeId) {α : Type} (f : α → List Value) (Q : α → Prop) : Prop :=
  ∀ fuel cs x, DataW.trod enc P W 0 (fun _ => true) true fuel t cs = some x → (∀ n ∈ x.1.weights P t, n ≤ reachBytes) → ∃ a, cs = f a ∧ Q a
section
variable {H : Type} {enc : TypeId × Value → H} {P : Program} {W : World} {t e : TypeId}
theorem reads_int {k : IntKind} (ht : P.underlying t = some (.int k)) : Reads enc P W t (fun n : Int => [.int k n]) (fun n => (Lit.int k n).wf = true) := by
  intro fuel cs x h _
  obtain ⟨m, rfl, rfl, hw⟩ := DataW.trod_int ht h
  exact ⟨m, rfl, hw⟩
theorem reads_float {k : FloatKind} (ht : P.underlying t = some (.float k)) : Reads enc P W t (fun b : Nat => [.float k b]) (fun b => (Lit.float k b).wf = true) := by
  intro fuel cs x h _
  cases fuel with
  | zero => simp [DataW.trod] at h
  | succ n =>
    unfold DataW.trod at h
    rw [ht] at h
    split at h <;> simp_all
theorem reads_string (ht : P.underlying t = some .string) : Reads enc P W t (fun s : ByteArray => [.string s]) (fun s => s.size ≤ maxLen ∧ s.size ≤ reachBytes) := by
  intro fuel cs x h hz
  obtain ⟨s, rfl, rfl, h1⟩ := DataW.trod_string ht h
  exact ⟨s, rfl, h1, hz _ (by simp [DataW.weights])⟩
def sv {α : Type} (s : Option Addr × Nat × List α) : Value := .slice s.1 s.2.2.length s.2.1
structure IsL (W : World) (by_ : Nat) {α : Type} (f : α → List Value) (Q : α → Prop) (s : Option Addr × Nat × List α) : Prop where
  le : s.2.2.length ≤ s.2.1
  most : s.2.1 ≤ maxLen
  none_ : s.1 = none → s.2.1 = 0
  rd : Rd W W.heap.size s.1 (s.2.2.flatMap f)
  all : ∀ x ∈ s.2.2, Q x
  reach : s.2.1 * by_ ≤ reachBytes
theorem weights_mem_all {ds : List (DataW H)} {d : DataW H} (hd : d ∈ ds) : ∀ n ∈ d.weights P e, n ∈ DataW.weightsAll P e ds := by
  intro n hn
  induction ds with
  | nil => simp at hd
  | cons c r ih =>
    rw [DataW.weightsAll, List.mem_append]
    rcases List.mem_cons.1 hd with rfl | h
    · exact .inl hn
    · exact .inr (ih h)
theorem flatMap_get {α : Type} (f : α → List Value) (size : Nat) : ∀ (xs : List α), (∀ a ∈ xs, (f a).length = size) → ∀ (j : Nat) (u : Value), (xs.flatMap f)[j]? = some u → ∃ i a, xs[i]? = some a ∧ i * size ≤ j ∧ j < (i + 1) * size ∧ (f a)[j - i * size]? = some u := by
  intro xs
  induction xs with
  | nil => intro _ j u h; simp at h
  | cons x r ih =>
    intro hl j u h
    rw [List.flatMap_cons, List.getElem?_append] at h
    split at h
    · rename_i hj
      rw [hl x (by simp)] at hj
      exact ⟨0, x, rfl, by omega, by omega, by simpa using h⟩
    · rename_i hj
      rw [hl x (by simp)] at hj h
      obtain ⟨i, a, h1, h2, h3, h4⟩ := ih (fun a ha => hl a (by simp [ha])) _ _ h
      refine ⟨i + 1, a, h1, ?_, ?_, ?_⟩
      · rw [Nat.add_mul]; omega
      · rw [Nat.add_mul]; omega
      · rw [Nat.add_mul, Nat.one_mul, show j - (i * size + size) = j - size - i * size by omega]; exact h4
theorem flatMap_len {α : Type} {f : α → List Value} {size : Nat} : ∀ (xs : List α), (∀ a ∈ xs, (f a).length = size) → (xs.flatMap f).length = xs.length * size
  | [], _ => by simp
  | x :: r, h => by
    rw [List.flatMap_cons, List.length_append, h x (by simp), flatMap_len r (fun a ha => h a (by simp [ha])), List.length_cons, Nat.add_mul]
    omega
theorem list_of {α : Type} {R : Nat → α → Prop} : ∀ n, (∀ i, i < n → ∃ a, R i a) → ∃ xs : List α, xs.length = n ∧ ∀ i a, xs[i]? = some a → R i a
  | 0, _ => ⟨[], rfl, fun i a h => by simp at h⟩
  | n + 1, h => by
    obtain ⟨xs, h1, h2⟩ := list_of n (fun i hi => h i (by omega))
    obtain ⟨a, ha⟩ := h n (by omega)
    refine ⟨xs ++ [a], by simp [h1], fun i b hb => ?_⟩
    rw [List.getElem?_append] at hb
    split at hb
    · exact h2 i b hb
    · rename_i hi
      have : i - xs.length = 0 := by
        have := (List.getElem?_eq_some_iff.1 hb).1
        simp at this
        omega
      rw [this] at hb
      simp at hb
      subst hb
      rw [show i = n by omega]
      exact ha
theorem reads_slice {α : Type} {f : α → List Value} {Q : α → Prop} {size by_ : Nat} (ht : P.underlying t = some (.slice e)) (hc : P.cellsOf e = size) (hby : P.bytesOf e = by_) (hsz : 0 < size) (hl : ∀ a, Q a → (f a).length = size)
    (hr : Reads enc P W e f Q) : Reads enc P W t (fun s => [sv s]) (IsL W by_ f Q) := by
  intro fuel cs x h hz
  rcases DataW.trod_slice ht h with ⟨rfl, rfl⟩ | ⟨a, len, cap, elems, rest, n, _, rfl, rfl, hb, hle, hm, hlen, hel, hsp, hns⟩
  · exact ⟨(none, 0, []), rfl, ⟨by simp, by simp [maxLen], fun _ => rfl, Rd.nil _ _ _, by simp, by simp⟩⟩
  · have hrest := (hsp rfl).1
    have hw0 : (elems.length + rest.length) * by_ ≤ reachBytes := by
      have := hz ((elems.length + rest.length) * P.bytesOf e) (by simp [DataW.weights, ht])
      rwa [hby] at this
    have hwe : ∀ y ∈ elems, ∀ n ∈ y.1.weights P e, n ≤ reachBytes := fun y hy n hn => hz n (by
      simp only [DataW.weights, ht, List.mem_cons, List.mem_append]
      exact .inr (.inl (weights_mem_all (List.mem_map.2 ⟨y, hy, rfl⟩) n hn)))
    have key : ∀ i, i < len → ∃ y, Q y ∧ W.cells? 0 (a.add (i * size)) size = some (f y) := by
      intro i hi
      have h1 := hel i hi
      rw [hc, List.getElem?_eq_getElem (by omega), Option.bind_eq_some_iff] at h1
      obtain ⟨cs', h2, h3⟩ := h1
      obtain ⟨y, rfl, hq⟩ := hr _ _ _ h3 (hwe _ (List.getElem_mem _))
      exact ⟨y, hq, h2⟩
    obtain ⟨xs, hxl, hxs⟩ := list_of len key
    refine ⟨(some a, cap, xs), by simp [sv, hxl], ⟨by simp [hxl, hle], hm, fun h => (by cases h), fun hne => ?_, fun y hy => ?_, ?_⟩⟩
    · have h0 : 0 < len := by
        rcases Nat.eq_zero_or_pos len with h0 | h0
        · have := List.eq_nil_of_length_eq_zero (hxl.trans h0)
          subst this
          simp at hne
        · exact h0
      have cell : ∀ i y j u, xs[i]? = some y → (f y)[j]? = some u → W.cell? (a.add (i * size + j)) = some u := by
        intro i y j u hy hu
        have h1 := (hxs i y hy).2
        have h2 := (World.cells?_some h1).2.2 j (by
          have := (List.getElem?_eq_some_iff.1 hu).1
          rw [hl y (hxs i y hy).1] at this
          exact this)
        rw [show (a.add (i * size)).add j = a.add (i * size + j) from by unfold Addr.add; split <;> split <;> simp_all [Nat.add_assoc]] at h2
        rw [h2]
        exact hu
      obtain ⟨y0, hy0⟩ : ∃ y, xs[0]? = some y := ⟨xs[0], List.getElem?_eq_getElem (by omega)⟩
      obtain ⟨u0, hu0⟩ : ∃ u, (f y0)[0]? = some u := ⟨(f y0)[0]'(by rw [hl y0 (hxs 0 y0 hy0).1]; exact hsz), List.getElem?_eq_getElem _⟩
      have c0 := cell 0 y0 0 u0 hy0 hu0
      obtain ⟨b, off, spot⟩ := a
      have hspot : spot = none := by simpa [Addr.add] using World.cell?_spot c0
      subst hspot
      have hbl : b < W.heap.size := by
        have := World.block_lt_of_cell? W _ c0
        simpa [Addr.add_lit] using this
      refine ⟨b, off, rfl, hbl, fun j u hu => ?_⟩
      obtain ⟨i, y, h1, h2, h3, h4⟩ := flatMap_get f size xs (fun a ha => by obtain ⟨i, hi⟩ := List.getElem?_of_mem ha; exact hl a (hxs i a hi).1) j u hu
      have := cell i y _ u h1 h4
      rw [Addr.add_lit] at this
      rw [show i * size + (j - i * size) = j by omega] at this
      exact this
    · obtain ⟨i, hi⟩ := List.getElem?_of_mem hy
      exact (hxs i y hi).1
    · have : elems.length + rest.length = cap := by omega
      rwa [this] at hw0
def ReadsF {H : Type} (enc : TypeId × Value → H) (P : Program) (W : World) (fs : List Field) (off size : Nat) {α : Type} (f : α → List Value) (Q : α → Prop) : Prop :=
  ∀ (fuel : Nat) (cs : List Value) (xs : List (DataW H × List MemPlace)), xs.length = fs.length → (∀ (i : Nat) (fd : Field), fs[i]? = some fd → DataW.trod enc P W 0 (fun _ => true) true fuel fd.type ((cs.drop fd.offset).take (P.cellsOf fd.type)) = xs[i]?) →
    (∀ n ∈ DataW.weightsEach P (fs.map (·.type)) (xs.map (·.1)), n ≤ reachBytes) → ∃ a, (cs.drop off).take size = f a ∧ Q a
theorem readsF_one {fd : Field} {t0 : TypeId} {α : Type} {f : α → List Value} {Q : α → Prop} {off size : Nat} (hr : Reads enc P W t0 f Q) (h0 : fd.type = t0) (h1 : fd.offset = off) (hc : P.cellsOf t0 = size) : ReadsF enc P W [fd] off size f Q := by
  subst h0 h1 hc
  intro fuel cs xs hl h hz
  obtain ⟨x, rfl⟩ : ∃ x, xs = [x] := by
    match xs, hl with
    | [x], _ => exact ⟨x, rfl⟩
  exact hr _ _ x (by simpa using h 0 fd rfl) (fun n hn => hz n (by simpa [DataW.weightsEach] using hn))
theorem readsF_cons {fd : Field} {fs : List Field} {t0 : TypeId} {α β : Type} {f : α → List Value} {Q : α → Prop} {g : β → List Value} {R : β → Prop} {off0 s0 off size total : Nat} (hr : Reads enc P W t0 f Q) (h0 : fd.type = t0) (h1 : fd.offset = off0) (hc : P.cellsOf t0 = s0) (ho : off = off0 + s0) (ht : total = s0 + size)
    (hF : ReadsF enc P W fs off size g R) : ReadsF enc P W (fd :: fs) off0 total (fun a : α × β => f a.1 ++ g a.2) (fun a => Q a.1 ∧ R a.2) := by
  subst h0 h1 hc ht
  intro fuel cs xs hl h hz
  obtain ⟨x, r, rfl⟩ : ∃ x r, xs = x :: r := by
    match xs, hl with
    | x :: r, _ => exact ⟨x, r, rfl⟩
  obtain ⟨a, h1, q1⟩ := hr _ _ x (by simpa using h 0 fd rfl) (fun n hn => hz n (by simp [DataW.weightsEach, hn]))
  obtain ⟨b, h2, q2⟩ := hF fuel cs r (by simpa using hl) (fun i fd' hi => by simpa using h (i + 1) fd' (by simpa using hi)) (fun n hn => hz n (by simp only [List.map_cons, DataW.weightsEach, List.mem_append]; exact .inr hn))
  refine ⟨(a, b), ?_, q1, q2⟩
  show _ = f a ++ g b
  rw [← h1, ← h2, ho, List.take_add, List.drop_drop]
theorem reads_struct {fs : Array Field} {α : Type} {f : α → List Value} {Q : α → Prop} (ht : P.underlying t = some (.struct fs)) (hF : ReadsF enc P W fs.toList 0 (P.cellsOf t) f Q) : Reads enc P W t f Q := by
  intro fuel cs x h hz
  obtain ⟨xs, n, _, rfl, hl, hlen, hf⟩ := DataW.trod_struct ht h
  obtain ⟨a, h1, q⟩ := hF n cs xs (by simpa using hlen) (fun i fd hi => hf i fd (by simpa using hi)) (fun m hm => hz m (by
    simp only [DataW.weights, ht]
    exact hm))
  refine ⟨a, ?_, q⟩
  rw [← h1, List.drop_zero, List.take_of_length_le (by omega)]
variable {v : Value} {d : DataW H} {p : List MemPlace}
theorem open_cells {α : Type} {f : α → List Value} {Q : α → Prop} (hr : Reads enc P W t f Q) (h : DataW.Trod enc P W 0 (fun _ => true) true t v d p) (hz : ∀ n ∈ d.weights P t, n ≤ reachBytes) : ∃ a, v.cells.toList = f a ∧ Q a := by
  obtain ⟨fuel, hf⟩ := h
  exact hr fuel _ _ hf hz
theorem open_slice_arg {α : Type} {base : Nat} {Q : (Option Addr × Nat × List α) → Prop} (ht : P.underlying t = some (.slice e)) (hr : Reads enc P W t (fun s => [sv s]) Q) (hv : Value.okWide P W .any base t v) (h : DataW.Trod enc P W 0 (fun _ => true) true t v d p) (hz : ∀ n ∈ d.weights P t, n ≤ reachBytes) :
    ∃ s, v = sv s ∧ Q s := by
  obtain ⟨a0, len, cap, rfl⟩ := okWide_slice ht hv
  obtain ⟨s, hs, q⟩ := open_cells hr h hz
  exact ⟨s, by simpa [Value.cells] using hs, q⟩
end
end
section
open Go.RowKit
theorem cl_ret_bool {a b : Bool} (h : a = b) : Ending.returned (.bool a) = .returned (.bool b) := by rw [h]
theorem cl_ret_i64 {a b : Int} (h : a = b) : Ending.returned (.int .i64 a) = .returned (.int .i64 b) := by rw [h]
def cl_iv (z : Int) : Value := .int .i64 z
theorem cl_enter_any {P : Program} {f : FuncId} {fn : Func} {c : Code} (hf : P.funcs[f]? = some fn) (hname : (fn.name == "runtime.NumGoroutine") = false) (hb : fn.body = some c) (args : Array Value) (w : World) :
    (callFunc f args).run P w = .ok (.enter f args) w := by
  have h1 : fn.name ≠ "runtime.NumGoroutine" := by simpa using hname
  simp [callFunc, hf, h1, hb]
structure Tests (f : Nat) (p : Int → Bool) : Prop where
  enter : ∀ args w, (callFunc f args).run Tryz.prog w = .ok (.enter f args) w
  ask : ∀ n w, Calls Tryz.prog f #[.int .i64 n] w fun e w' => e = .returned (.bool (p n)) ∧ w' = w
def idx (p : Int → Bool) (l : List Int) : Int := if l.any p = true then (l.findIdx p : Int) else -1
theorem idx_at {p : Int → Bool} {l : List Int} {i : Nat} (h : i < l.length) (no : ∀ j (hj : j < l.length), j < i → p l[j] = false) (yes : p l[i] = true) : idx p l = (i : Int) := by
  have e : l.findIdx p = i := by
    rw [List.findIdx_eq h]
    exact ⟨yes, fun j hj => no j (by omega) hj⟩
  unfold idx
  rw [if_pos (List.any_eq_true.2 ⟨_, List.getElem_mem h, yes⟩), e]
theorem idx_no {p : Int → Bool} {l : List Int} (no : ∀ j (hj : j < l.length), p l[j] = false) : idx p l = -1 := by
  unfold idx
  rw [if_neg]
  intro h
  obtain ⟨x, hx, hp⟩ := List.any_eq_true.1 h
  obtain ⟨j, hj, rfl⟩ := List.mem_iff_getElem.1 hx
  rw [no j hj] at hp
  cases hp
theorem idx_any (p : Int → Bool) (l : List Int) : (decide (0 ≤ idx p l)) = l.any p := by
  unfold idx
  split
  · rename_i h; rw [h]; simp
  · rename_i h
    rw [show l.any p = false by simpa using h]
    decide
theorem cl_indexFunc_any (f : Nat) (p : Int → Bool) (hf : Tests f p) (w : World) (A : Option Addr) (cap : Nat) (l : List Int) (hA : Rd w w.heap.size A (l.map cl_iv)) (hl : l.length ≤ 1000000) :
    Calls Tryz.prog 135 #[.slice A l.length cap, .func (.func f) #[] #[]] w fun e w' => e = .returned (.int .i64 (idx p l)) ∧ w' = w := by
  have HA := zh hA
  have HT := zh hf
  have hcf := hf.enter
  clear hA hf
  go_in
  go_wp2_with fail
  go_loop [8] (fun v8 => ∃ i : Nat, i ≤ l.length ∧ v8 = .int .i64 (i : Int) ∧ (∀ j (hj : j < l.length), j < i → p l[j] = false)) (fun v8 => l.length - (RowKit.intOf v8).toNat)
  case atStart => exact ⟨0, by omega, rfl, fun _ _ h => by omega⟩
  case round =>
    obtain ⟨i, hi, rfl, hno⟩ := hrel
    have HNO := zh hno
    clear hno
    have hi0 : (0 : Int) ≤ (i : Int) := by omega
    by_cases hlt : i < l.length
    · obtain ⟨b, o, rfl, _, hc⟩ := HA.out.at_ (k := i) (by simpa using hlt)
      rw [List.getElem_map] at hc
      unfold cl_iv at hc
      have hlti : (i : Int) < (l.length : Int) := by omega
      have HASK := zh (HT.out.ask l[i] w)
      obtain ⟨b', hb'⟩ : ∃ b', p l[i] = b' := ⟨_, rfl⟩
      have HB := zh hb'
      rw [hb'] at HASK
      clear hb'
      generalize l[i] = x at hc HASK
      cases b' with
      | true =>
        go_wp2_with fail
        refine HASK.out.mono ?_
        rintro e w' ⟨rfl, rfl⟩
        go_wp2_with fail
        go_ret
        exact ⟨cl_ret_i64 (idx_at hlt HNO.out HB.out).symm, rfl⟩
      | false =>
        go_wp2_with fail
        refine HASK.out.mono ?_
        rintro e w' ⟨rfl, hw'⟩
        rw [hw']
        clear hw' w'
        go_wp2_with fail
        go_round
        case rel =>
          refine ⟨i + 1, by omega, by go_num, fun j hj hji => ?_⟩
          rcases Nat.lt_or_ge j i with h | h
          · exact HNO.out j hj h
          · obtain rfl : j = i := by omega
            exact HB.out
        case measure => simp [RowKit.intOf]; omega
    · have hlti : ¬ (i : Int) < (l.length : Int) := by omega
      go_wp2_with fail
      go_ret
      exact ⟨cl_ret_i64 (idx_no (fun j hj => HNO.out j hj (by omega))).symm, rfl⟩
theorem containsFunc_any (f : Nat) (p : Int → Bool) (hf : Tests f p) (w : World) (A : Option Addr) (cap : Nat) (l : List Int) (hA : Rd w w.heap.size A (l.map cl_iv)) (hl : l.length ≤ 1000000) :
    Calls Tryz.prog 96 #[.slice A l.length cap, .func (.func f) #[] #[]] w fun e w' => e = .returned (.bool (l.any p)) ∧ w' = w := by
  have HI := zh (cl_indexFunc_any f p hf w A cap l hA hl)
  have HE := zh (idx_any p l)
  clear hA hf
  go_in
  go_wp2_with fail
  refine HI.out.mono ?_
  rintro e w' ⟨rfl, rfl⟩
  go_wp2_with fail
  go_ret
  exact ⟨cl_ret_bool HE.out, rfl⟩
theorem pOdd_any (x : Int) (w : World) : Calls Tryz.prog 95 #[.int .i64 x] w fun e w' => e = .returned (.bool (decide (x < 1 ∨ 10 < x))) ∧ w' = w := by
  by_cases h1 : x < 1
  · have d1 : decide (x < 1) = true := decide_eq_true h1
    have HV : Hid (decide (x < 1 ∨ 10 < x) = true) := zh (decide_eq_true (.inl h1))
    clear h1
    go_in
    go_wp2_with fail
    go_ret
    exact ⟨ret_b HV.out.symm, rfl⟩
  · have d1 : decide (x < 1) = false := decide_eq_false h1
    have HV : Hid (decide (x < 1 ∨ 10 < x) = decide (10 < x)) := zh (by
      by_cases h2 : 10 < x
      · rw [decide_eq_true h2]; exact decide_eq_true (.inr h2)
      · rw [decide_eq_false h2]; exact decide_eq_false (by omega))
    clear h1
    go_in
    go_wp2_with fail
    go_ret
    exact ⟨ret_b HV.out.symm, rfl⟩
theorem pOdd_tests : Tests 95 (fun x => decide (x < 1 ∨ 10 < x)) := ⟨fun args w => cl_enter_any Tryz.func95 rfl rfl args w, fun n w => pOdd_any n w⟩
theorem pAcross_any (w : World) (r : Int) (A : Option Addr) (c : Nat) (gs : List Int) (hA : Rd w w.heap.size A (ivs gs)) (hs : small gs) :
    Calls Tryz.prog 94 #[.agg #[.int .i64 r, .slice A gs.length c]] w fun e w' => e = .returned (.int .i64 gs.sum) ∧ Fresh w w' := by
  obtain ⟨W, hW⟩ : ∃ W, w.alloc (.cells #[.int .i64 r, .slice A gs.length c] 33) = W := ⟨_, rfl⟩
  have hFW : Fresh w W := by rw [← hW]; exact (Frm.refl _ w).alloc _
  have hBX : Blk W w.heap.size 33 #[.int .i64 r, .slice A gs.length c] := by rw [← hW]; exact Blk.new w _ _
  have HF := zh hFW
  have y1 : W.cell? ⟨w.heap.size, 1, none⟩ = some (.slice A gs.length c) := hBX.cell 1
  have HA := zh (hA.fresh (Nat.le_refl _) hFW)
  have HS := zh hs
  have hl := hs.1
  clear hFW hBX hA hs
  go_in
  go_wp2_with fail
  try rw [hW]
  clear hW
  go_loopw [3, 9] (fun v3 v4 wr => ∃ i : Nat, i ≤ gs.length ∧ v3 = .int .i64 (gs.take i).sum ∧ v4 = .int .i64 (i : Int) ∧ wr = W) (fun _ v4 _ => gs.length - (RowKit.intOf v4).toNat)
  case atStart => exact ⟨0, by omega, rfl, rfl, rfl⟩
  case round =>
    obtain ⟨i, hi, rfl, rfl, rfl⟩ := hrel
    have hi0 : (0 : Int) ≤ (i : Int) := by omega
    by_cases hlt : i < gs.length
    · have hlti : (i : Int) < (gs.length : Int) := by omega
      obtain ⟨b, o, rfl, _, hc⟩ := HA.out.at_ (k := i) (by simpa using hlt)
      rw [List.getElem_map] at hc
      have HST := zh (sum_take hlt)
      have h1 := HS.out.2 _ (List.getElem_mem hlt)
      have h2 := sum_small (gs.take i) (fun x hx => HS.out.2 x (List.mem_of_mem_take hx))
      have h3 : (gs.take i).length = i := by rw [List.length_take]; omega
      rw [h3] at h2
      generalize gs[i] = x at hc HST h1
      generalize (gs.take i).sum = s at HST h2
      have hw : IntKind.i64.wrap (s + x) = s + x := IntWalk.i64_in _ (by omega)
      clear h3
      go_wp2_with fail
      go_roundw
      case rel => exact ⟨i + 1, by omega, by rw [HST.out], by go_num, by first | rfl | trivial⟩
      case measure => simp [RowKit.intOf]; omega
    · have hlti : ¬ (i : Int) < (gs.length : Int) := by omega
      have HE : Hid ((gs.take i).sum = gs.sum) := zh (by rw [List.take_of_length_le (by omega)])
      go_wp2_with fail
      go_ret
      exact ⟨ret_z HE.out, HF.out⟩
theorem any_odd {gs : List Int} (h : gs.any (fun x => decide (x < 1 ∨ 10 < x)) = false) : ∀ g ∈ gs, 1 ≤ g ∧ g ≤ 10 := by
  intro g hg
  have := List.any_eq_false.1 h g hg
  simp at this
  omega
theorem any_odd' {gs : List Int} (h : gs.any (fun x => decide (x < 1 ∨ 10 < x)) = true) : ¬ ∀ g ∈ gs, 1 ≤ g ∧ g ≤ 10 := by
  intro k
  obtain ⟨g, hg, hx⟩ := List.any_eq_true.1 h
  have := k g hg
  simp at hx
  omega
theorem pRight_any (w : World) (r : Int) (A : Option Addr) (c : Nat) (gs : List Int) (hA : Rd w w.heap.size A (ivs gs)) (hs : small gs) :
    Calls Tryz.prog 52 #[.agg #[.int .i64 r, .slice A gs.length c]] w fun e w' => e = .returned (.bool (rightL r gs)) ∧ Fresh w w' := by
  obtain ⟨W, hW⟩ : ∃ W, w.alloc (.cells #[.int .i64 r, .slice A gs.length c] 33) = W := ⟨_, rfl⟩
  have hFW : Fresh w W := by rw [← hW]; exact (Frm.refl _ w).alloc _
  have hBX : Blk W w.heap.size 33 #[.int .i64 r, .slice A gs.length c] := by rw [← hW]; exact Blk.new w _ _
  have HF := zh hFW
  have y0 : W.cell? ⟨w.heap.size, 0, none⟩ = some (.int .i64 r) := hBX.cell 0
  have y1 : W.cell? ⟨w.heap.size, 1, none⟩ = some (.slice A gs.length c) := hBX.cell 1
  have hA2 := hA.fresh (Nat.le_refl _) hFW
  have HAC := zh (pAcross_any W r A c gs (hA2.more hFW.size) hs)
  have HCF := zh (containsFunc_any _ _ pOdd_tests W A c gs (hA2.more hFW.size) (by have := hs.1; omega))
  have hl := hs.1
  obtain ⟨n, hn⟩ : ∃ n, n = gs.length := ⟨_, rfl⟩
  obtain ⟨bo, hbo⟩ : ∃ b, b = gs.any (fun x => decide (x < 1 ∨ 10 < x)) := ⟨_, rfl⟩
  rw [← hbo, ← hn] at HCF
  have HBO := zh hbo
  rw [← hn] at y1 hl HAC hW ⊢
  have HN := zh hn
  clear hFW hBX hA hA2 hs hn hbo
  by_cases c0 : 1 ≤ r
  · have d0 : decide (r < 1) = false := decide_eq_false (by omega)
    by_cases c1 : r ≤ 60
    · have d1 : decide (60 < r) = false := decide_eq_false (by omega)
      by_cases c2 : 1 ≤ (n : Int)
      · have d2 : decide ((n : Int) < 1) = false := decide_eq_false (by omega)
        by_cases c3 : (n : Int) ≤ 4
        · have d3 : decide (4 < (n : Int)) = false := decide_eq_false (by omega)
          go_in
          go_wp2_with fail
          try rw [hW]
          clear hW
          refine HCF.out.mono ?_
          rintro e w1 ⟨rfl, hw1⟩
          rw [hw1]
          clear hw1 w1
          cases bo with
          | true =>
            have HV : Hid (rightL r gs = false) := zh (rightL_no (fun k => any_odd' HBO.out.symm k.2.2))
            go_wp2_with fail
            go_ret
            exact ⟨ret_b HV.out.symm, HF.out⟩
          | false =>
            have HV : Hid (rightL r gs = decide (gs.sum ≤ 10)) := zh (rightL_yes ⟨⟨c0, c1⟩, by have := HN.out; omega, any_odd HBO.out.symm⟩)
            go_wp2_with fail
            refine HAC.out.mono ?_
            rintro e w1 ⟨rfl, f1⟩
            have HF1 := zh (HF.out.trans f1)
            clear f1
            go_wp2_with fail
            go_ret
            exact ⟨ret_b HV.out.symm, HF1.out⟩
        · have HV : Hid (rightL r gs = false) := zh (rightL_no (by have := HN.out; omega))
          have d3 : decide (4 < (n : Int)) = true := decide_eq_true (by omega)
          clear hl c3
          go_in
          go_wp2_with fail
          go_ret
          exact ⟨ret_b HV.out.symm, HF.out⟩
      · have HV : Hid (rightL r gs = false) := zh (rightL_no (by have := HN.out; omega))
        have d2 : decide ((n : Int) < 1) = true := decide_eq_true (by omega)
        clear hl c2
        go_in
        go_wp2_with fail
        go_ret
        exact ⟨ret_b HV.out.symm, HF.out⟩
    · have HV : Hid (rightL r gs = false) := zh (rightL_no (by omega))
      have d1 : decide (60 < r) = true := decide_eq_true (by omega)
      clear hl c1
      go_in
      go_wp2_with fail
      go_ret
      exact ⟨ret_b HV.out.symm, HF.out⟩
  · have HV : Hid (rightL r gs = false) := zh (rightL_no (by omega))
    have d0 : decide (r < 1) = true := decide_eq_true (by omega)
    clear hl c0
    go_in
    go_wp2_with fail
    go_ret
    exact ⟨ret_b HV.out.symm, HF.out⟩
theorem countL_bd (r : Int) (gs : List Int) : 0 ≤ countL r gs ∧ countL r gs ≤ 600 := by
  unfold countL
  split
  · rename_i h
    obtain ⟨h1, h2, h3, h4⟩ := rightL_of h
    have h5 := sum_small gs (fun g hg => by have := h3 g hg; omega)
    have h6 : 0 ≤ r * gs.sum := Int.mul_nonneg (by omega) h5.1
    have h7 : r * gs.sum ≤ 60 * 10 := Int.mul_le_mul (by omega) (by omega) h5.1 (by omega)
    omega
  · omega
theorem pCount_any (w : World) (r : Int) (A : Option Addr) (c : Nat) (gs : List Int) (hA : Rd w w.heap.size A (ivs gs)) (hs : small gs) :
    Calls Tryz.prog 51 #[.agg #[.int .i64 r, .slice A gs.length c]] w fun e w' => e = .returned (.int .i64 (countL r gs)) ∧ Fresh w w' := by
  obtain ⟨W, hW⟩ : ∃ W, w.alloc (.cells #[.int .i64 r, .slice A gs.length c] 33) = W := ⟨_, rfl⟩
  have hFW : Fresh w W := by rw [← hW]; exact (Frm.refl _ w).alloc _
  have hBX : Blk W w.heap.size 33 #[.int .i64 r, .slice A gs.length c] := by rw [← hW]; exact Blk.new w _ _
  have HF := zh hFW
  have HY : Hid (∀ w', Fresh W w' → w'.cell? ⟨w.heap.size, 0, none⟩ = some (.int .i64 r) ∧ w'.cell? ⟨w.heap.size, 1, none⟩ = some (.slice A gs.length c)) := zh fun w' F => ⟨(hBX.frm F (fun f => f)).cell 0, (hBX.frm F (fun f => f)).cell 1⟩
  obtain ⟨y0, y1⟩ := HY.out W (Frm.refl _ _)
  have hA2 := hA.fresh (Nat.le_refl _) hFW
  have HRG := zh (pRight_any W r A c gs (hA2.more hFW.size) hs)
  have HAC : Hid (∀ w', Fresh W w' → Calls Tryz.prog 94 #[.agg #[.int .i64 r, .slice A gs.length c]] w' fun e w'' => e = .returned (.int .i64 gs.sum) ∧ Fresh w' w'') := zh fun w' F => pAcross_any w' r A c gs ((hA2.fresh hFW.size F).more (Nat.le_trans hFW.size F.size)) hs
  have hl := hs.1
  clear hFW hBX hA hA2
  cases hb : rightL r gs with
  | false =>
    have HV : Hid (countL r gs = 0) := zh (by unfold countL; rw [hb]; rfl)
    rw [hb] at HRG
    clear hb hs
    go_in
    go_wp2_with fail
    try rw [hW]
    clear hW
    refine HRG.out.mono ?_
    rintro e w1 ⟨rfl, f1⟩
    have HF1 := zh (HF.out.trans f1)
    clear f1
    go_wp2_with fail
    go_ret
    exact ⟨ret_z HV.out.symm, HF1.out⟩
  | true =>
    have HV : Hid (countL r gs = r * gs.sum) := zh (by unfold countL; rw [hb, if_pos rfl])
    obtain ⟨h1, h2, h3, h4⟩ := rightL_of hb
    have h5 := sum_small gs (fun g hg => by have := h3 g hg; omega)
    have h6 : 0 ≤ r * gs.sum := Int.mul_nonneg (by omega) h5.1
    have h7 : r * gs.sum ≤ 60 * 10 := Int.mul_le_mul (by omega) (by omega) h5.1 (by omega)
    rw [hb] at HRG
    generalize gs.sum = sm at HV HAC h4 h5 h6 h7
    have hwr : IntKind.i64.wrap (r * sm) = r * sm := IntWalk.i64_in _ (by omega)
    clear hb hs h1 h2 h3 h4 h5 h6 h7
    go_in
    go_wp2_with fail
    try rw [hW]
    clear hW
    refine HRG.out.mono ?_
    rintro e w1 ⟨rfl, f1⟩
    obtain ⟨z0, z1⟩ := HY.out w1 f1
    have HF1 := zh f1
    clear f1 y0 y1
    go_wp2_with fail
    go_region_held3 (fun w' => w'.cell? ⟨w.heap.size, 0, none⟩ = some (.int .i64 r) ∧ w'.cell? ⟨w.heap.size, 1, none⟩ = some (.slice A gs.length c)) (first | exact HY.out _ (HF1.out.drew.trans HF2.out) | go_keep) ((go_at_call 94; refine (HAC.out _ HF1.out.drew).mono ?_; rintro e w2 ⟨rfl, f2⟩; have HF2 := zh f2; clear f2))
    go_wp2_with fail
    go_ret
    exact ⟨ret_z HV.out.symm, HF.out.trans (HF1.out.drew.trans HF2.out)⟩
end
end Go.Proofs.YtbeaoddjomdlcaaGreatDoor

/- Proved here, for the statement ClientOnceSaid: laws that its walk leans on. It holds with no condition. (Put together and shortened by a program out of many texts: On11, On12, NestMath, Nest, Nest2, Nest3, Nest4, Nest5, Nest6, NestMath2, Nest7, Nest8, On13, On14.) -/
import Derived.Test.YtnmokpbomeamfaaGreatZ02
set_option linter.unusedVariables false
set_option maxRecDepth 100000
set_option maxHeartbeats 64000000
namespace Go.Proofs.YtnmokpbomeamfaaGreat
def soldS (acc : List Int) (h : Hd) : List Int := acc.set h.cl.toNat ((acc[h.cl.toNat]?).getD 0 + h.mn)
def soldF (nl : Nat) (hs : List Hd) : List Int := hs.foldl soldS (List.replicate nl 0)
theorem soldF_nil (nl : Nat) : soldF nl [] = List.replicate nl 0 := rfl
theorem soldF_step {nl : Nat} {hs : List Hd} {i : Nat} (h : i < hs.length) : soldF nl (hs.take (i + 1)) = soldS (soldF nl (hs.take i)) hs[i] := by
 unfold soldF
 rw [zu h, List.foldl_append]
 rfl
theorem soldS_len (acc : List Int) (h : Hd) : (soldS acc h).length = acc.length := zz
theorem soldF_len (nl : Nat) (hs : List Hd) : (soldF nl hs).length = nl := by
 unfold soldF
 have : ∀ (l : List Hd) (acc : List Int), (l.foldl soldS acc).length = acc.length := by
  intro l
  induction l with
  | nil => intro acc; rfl
  | cons x r ih => intro acc; rw [List.foldl_cons, ih, soldS_len]
 rw [this, List.length_replicate]
theorem soldS_bd {acc : List Int} {h : Hd} {a k : Int} (hk0 : 0 ≤ k) (ha0 : 0 ≤ a) (h0 : 0 ≤ h.mn) (h1 : h.mn ≤ k) (hacc : ∀ y ∈ acc, 0 ≤ y ∧ y ≤ a) : ∀ y ∈ soldS acc h, 0 ≤ y ∧ y ≤ a + k := by
 intro y hy
 unfold soldS at hy
 rcases List.mem_or_eq_of_mem_set hy with hm | rfl
 ·have := hacc y hm
  omega
 ·cases hg : acc[h.cl.toNat]? with
  | none => simp; omega
  | some z =>
   have := hacc z (List.mem_of_getElem? hg)
   simp
   omega
theorem soldF_bd {nl : Nat} {hs : List Hd} {k : Int} (hk0 : 0 ≤ k) (hb : ∀ x ∈ hs, 0 ≤ x.mn ∧ x.mn ≤ k) : ∀ (i : Nat), i ≤ hs.length → ∀ y ∈ soldF nl (hs.take i), 0 ≤ y ∧ y ≤ (i : Int) * k
 | 0, _, y, hy => by
  rw [List.take_zero, soldF_nil] at hy
  have := List.eq_of_mem_replicate hy
  simp [this]
 | i + 1, hi, y, hy => by
  have hlt : i < hs.length := by omega
  rw [soldF_step hlt] at hy
  have hx := hb _ (ze hlt)
  have h2 := soldS_bd hk0 (Int.mul_nonneg (Int.natCast_nonneg i) hk0) hx.1 hx.2 (soldF_bd hk0 hb i (by omega)) y hy
  rw [Int.natCast_succ, Int.add_mul, Int.one_mul]
  exact h2
section
open Go.RowKit
def zarr (n : Nat) : Array Value := (ivs (List.replicate n 0)).toArray
theorem made_ints (n : Nat) : madeCells (Value.int .i64 0).cells (n * 1) = zarr n := by
 unfold zarr ivs
 apply Array.ext_getElem?
 intro j
 rw [Nat.mul_one]
 by_cases h : j < n
 ·simp [madeCells, h, Value.cells, Nat.mod_one]
 ·simp [madeCells, h]
theorem make_ints (n : Nat) (hn : n ≤ 1000) (w : World) : (Instr.makeSlice 26 (.int .i64 (n : Int)) (.int .i64 (n : Int))).run Tryz.prog w = .ok (.slice (some ⟨w.heap.size, 0, none⟩) n n) (w.alloc (.cells (zarr n) 3)) := by
 obtain ⟨i0, hi, hz0, hz1, hz2⟩ := info_parts info_i64
 have hr := run_make (P := Tryz.prog) w 26 3 i0 _ Tryz.underlying26 hi hz0 .i64 .i64 n n (by omega) (Int.le_refl _) (by rw [hz2]; omega) (by omega)
 simp only [zx] at hr
 rw [hr, hz1, made_ints]
theorem zarr_sl (w : World) (n : Nat) (h : n ≤ 1000) : Sl (w.alloc (.cells (zarr n) 3)) w.heap.size 3 1 (.slice (some ⟨w.heap.size, 0, none⟩) n n) n (ivs (List.replicate n 0)) := by
 have hl : (ivs (List.replicate n 0)).length = n := by unfold ivs; simp
 have := sl_new w w.heap.size (ivs (List.replicate n 0)) 3 (zf _) (by rw [hl]; unfold maxLen; omega)
 rw [hl] at this
 exact this
theorem sold15_any (w : World) (B f : Nat) (m : FlM) (h : FlAt w B f m) (hl : m.hs.length ≤ 1000) (hn : m.lims.length ≤ 8)
 (hb : ∀ x ∈ m.hs, 0 ≤ x.mn ∧ x.mn ≤ 1000000) (hc : ∀ x ∈ m.hs, 0 ≤ x.cl ∧ x.cl < (m.lims.length : Int)) :
 Calls Tryz.prog 86 #[.pointer (some ⟨f, 0, none⟩)] w fun e w' => OwnL w (soldF m.lims.length m.hs) e w' := by
 have HFA := zh h
 obtain ⟨hs, hhs⟩ : ∃ x, x = m.hs := ⟨_, rfl⟩
 obtain ⟨nl, hnl⟩ : ∃ x, x = m.lims.length := ⟨_, rfl⟩
 have HY : Hid (∀ w', Fresh w w' → w'.cell? ⟨f, 4, none⟩ = some (.slice m.HA hs.length m.hc)) := zh fun w' F => by rw [hhs]; exact (h.fresh F).blk.cell 4
 have y3 : w.cell? ⟨f, 3, none⟩ = some (.slice m.LA nl m.lc) := by rw [hnl]; exact h.blk.cell 3
 have HR : Hid (∀ w', Fresh w w' → Rd w' w'.heap.size m.HA (hs.flatMap hcel)) := zh fun w' F => by rw [hhs]; exact (h.fresh F).hsl.rd
 rw [← hhs] at hl hb hc ⊢
 rw [← hnl] at hn hc ⊢
 have HB := zh hb
 have HC := zh hc
 generalize m.HA = HA at HY HR
 generalize m.hc = c at HY
 generalize m.LA = LA at y3
 generalize m.lc = lc at y3
 have S0 := zh (zarr_sl w nl (by omega))
 have hmk := make_ints nl (by omega)
 clear h hhs hnl HFA hb hc
 go_in
 go_wp2_with fail
 go_loopw [4] (fun v4 wr => ∃ (i : Nat), i ≤ hs.length ∧ v4 = .int .i64 (i : Int) ∧ Sl wr w.heap.size 3 1 (.slice (some ⟨w.heap.size, 0, none⟩) nl nl) nl (ivs (soldF nl (hs.take i))) ∧ Fresh w wr) (fun v4 _ => hs.length - (intOf v4).toNat)
 case atStart => exact ⟨0, by omega, rfl, S0.out, (za _ _).alloc _⟩
 case round =>
  obtain ⟨i, hil, rfl, hsl, hf⟩ := hrel
  have hi0 : (0 : Int) ≤ (i : Int) := by omega
  have y4 := HY.out wr hf
  have HF := zh hf
  have HSL := zh hsl
  clear hsl hf
  by_cases hlt : i < hs.length
  ·have hlti : (i : Int) < (hs.length : Int) := by omega
   obtain ⟨b, o, hA, _, _, c1, c2, _⟩ := hold_at (HR.out wr HF.out) hlt
   subst hA
   obtain ⟨hc0, hc1⟩ := HC.out _ (ze hlt)
   obtain ⟨hb0, hb1⟩ := HB.out _ (ze hlt)
   have HN := zh (soldF_step (nl := nl) hlt)
   have HL := zh (soldF_len nl (hs.take i))
   have HBD := zh (soldF_bd (nl := nl) (k := 1000000) (by omega) HB.out i hil)
   generalize soldF nl (hs.take i) = s at HN HL HBD HSL
   generalize hs[i] = x at c1 c2 hc0 hc1 hb0 hb1 HN
   obtain ⟨xo, xc, xm, xA, xk, xs⟩ := x
   simp only at c1 c2 hc0 hc1 hb0 hb1
   obtain ⟨k, rfl⟩ := zA hc0
   have hk : k < s.length := by have := HL.out; omega
   obtain ⟨b2, o2, he, _, hcc⟩ := HSL.out.rd.at_ (k := k) (by unfold ivs; simpa using hk)
   injection he with he
   injection he with he1 he2
   subst he1 he2
   unfold ivs at hcc
   rw [List.getElem_map, Nat.zero_add] at hcc
   have hy := HBD.out _ (ze hk)
   have HY2 : Hid (soldS s ⟨xo, (k : Int), xm, xA, xk, xs⟩ = s.set k (s[k] + xm)) := zh (by unfold soldS; simp [zH hk])
   generalize s[k] = y at hcc hy HY2
   obtain ⟨hy0, hy1⟩ := hy
   have hy2 : y ≤ 1000000000 := by omega
   clear hy1
   go_wp2_with fail
   have hz := HSL.out.frozen k
   go_region
   go_wp2_with fail
   go_roundw
   case rel =>
    refine ⟨i + 1, by omega, by go_num, ?_, ?_⟩
    ·rw [HN.out, HY2.out]
     have h := (HSL.out.drew).store (j := k) (by unfold ivs; simpa using hk) (.int .i64 (y + xm))
     rw [Nat.zero_add] at h
     unfold ivs at h ⊢
     rw [List.map_set]
     exact h
    ·exact (HF.out.drew).setCell (p := ⟨w.heap.size, k, none⟩) (fun h => by simp at h) _
   case measure => simp [intOf]; omega
  ·have hlti : ¬ (i : Int) < (hs.length : Int) := by omega
   have HE : Hid (hs.take i = hs) := zh (zD (by omega))
   go_wp2_with fail
   go_ret
   unfold OwnL
   rw [HE.out] at HSL
   rw [soldF_len]
   exact ⟨_, rfl, HSL.out, HF.out⟩
end
namespace NestM
def at_ (l : List Int) (k : Nat) : Int := l.getD k 0
theorem at_get {l : List Int} {k : Nat} (h : k < l.length) : at_ l k = l[k] := by simp [at_, List.getD, h]
def wi (n : Int) : Bool := decide (0 ≤ n ∧ n ≤ 10000)
theorem wi_true {n : Int} (h : wi n = true) : 0 ≤ n ∧ n ≤ 10000 := by simpa [wi] using h
theorem wi_mk {n : Int} (h : 0 ≤ n ∧ n ≤ 10000) : wi n = true := by simpa [wi] using h
def sfx (s : List Int) (k : Nat) : Int := (s.drop k).sum
theorem sfx_step {s : List Int} {k : Nat} (h : k < s.length) : sfx s k = at_ s k + sfx s (k + 1) := by
 unfold sfx at_
 rw [zK h, List.sum_cons]
 simp [List.getD, h]
theorem sfx_end {s : List Int} {k : Nat} (h : s.length ≤ k) : sfx s k = 0 := by
 unfold sfx
 rw [List.drop_of_length_le h]
 rfl
def OkAt (l s : List Int) (k : Nat) : Prop := wi (at_ l k) = true ∧ wi (at_ s k) = true ∧ (0 < k → at_ l k ≤ at_ l (k - 1))
def OkFrom (l s : List Int) (m : Nat) : Prop := ∀ j, m ≤ j → j < l.length → OkAt l s j
theorem sfx_bd {l s : List Int} (hs : s.length = l.length) : ∀ (d m : Nat), l.length = m + d → OkFrom l s m → 0 ≤ sfx s m ∧ sfx s m ≤ 10000 * d := by
 intro d
 induction d with
 | zero => intro m hm _; rw [sfx_end (by omega)]; omega
 | succ d ih =>
  intro m hm h
  have h1 := ih (m + 1) (by omega) (fun j hj hl => h j (by omega) hl)
  have h2 := wi_true (h m (zf _) (by omega)).2.1
  rw [sfx_step (by omega)]
  omega
def fineF (l s : List Int) : Nat → Nat → Bool
 | 0, _ => true
 | f + 1, m => fineF l s f (m + 1) && decide (sfx s m ≤ at_ l m)
def fine (l s : List Int) (m : Nat) : Bool := fineF l s (l.length - m) m
theorem fineF_iff (l s : List Int) : ∀ f m, fineF l s f m = true ↔ ∀ j, m ≤ j → j < m + f → sfx s j ≤ at_ l j := by
 intro f
 induction f with
 | zero => intro m; simp [fineF]; intro j h1 h2; omega
 | succ f ih =>
  intro m
  rw [fineF, Bool.and_eq_true, ih, decide_eq_true_eq]
  constructor
  ·intro ⟨h1, h2⟩ j hj hl
   rcases Nat.eq_or_lt_of_le hj with e | e
   ·subst e; exact h2
   ·exact h1 j e (by omega)
  ·intro h
   exact ⟨fun j hj hl => h j (by omega) (by omega), h m (zf _) (by omega)⟩
theorem fine_iff (l s : List Int) (m : Nat) (hm : m ≤ l.length) : fine l s m = true ↔ ∀ j, m ≤ j → j < l.length → sfx s j ≤ at_ l j := by
 unfold fine
 rw [fineF_iff, show m + (l.length - m) = l.length by omega]
def Shape (l s : List Int) : Prop := 1 ≤ l.length ∧ l.length ≤ 8 ∧ s.length = l.length
def Ok (l s : List Int) : Prop := Shape l s ∧ OkFrom l s 0
def Right (l s : List Int) : Prop := Ok l s ∧ fine l s 0 = true
def leastF (l s : List Int) (c : Int) : Nat → Nat → Int
 | 0, _ => 10000
 | f + 1, m => if (m : Int) ≤ c then min (leastF l s c f (m + 1)) (at_ l m - sfx s m) else leastF l s c f (m + 1)
def least (l s : List Int) (c : Int) (m : Nat) : Int := leastF l s c (l.length - m) m
theorem leastF_le (l s : List Int) (c y : Int) : ∀ f m, y ≤ leastF l s c f m ↔ y ≤ 10000 ∧ ∀ j : Nat, m ≤ j → j < m + f → (j : Int) ≤ c → y ≤ at_ l j - sfx s j := by
 intro f
 induction f with
 | zero => intro m; simp [leastF]; intro _ j h1 h2; omega
 | succ f ih =>
  intro m
  rw [leastF]
  split
  ·rename_i hm
   rw [Int.le_min, ih]
   constructor
   ·intro ⟨⟨h0, h1⟩, h2⟩
    refine ⟨h0, fun j hj hl hc => ?_⟩
    rcases Nat.eq_or_lt_of_le hj with e | e
    ·subst e; exact h2
    ·exact h1 j e (by omega) hc
   ·intro ⟨h0, h⟩
    exact ⟨⟨h0, fun j hj hl hc => h j (by omega) (by omega) hc⟩, h m (zf _) (by omega) hm⟩
  ·rename_i hm
   rw [ih]
   constructor
   ·intro ⟨h0, h1⟩
    refine ⟨h0, fun j hj hl hc => ?_⟩
    rcases Nat.eq_or_lt_of_le hj with e | e
    ·subst e; exact absurd hc hm
    ·exact h1 j e (by omega) hc
   ·intro ⟨h0, h⟩
    exact ⟨h0, fun j hj hl hc => h j (by omega) (by omega) hc⟩
def leastUp (l s : List Int) : Nat → Int
 | 0 => 10000
 | k + 1 => min (leastUp l s k) (at_ l k - sfx s k)
theorem leastUp_le (l s : List Int) (y : Int) : ∀ k, y ≤ leastUp l s k ↔ y ≤ 10000 ∧ ∀ j : Nat, j < k → y ≤ at_ l j - sfx s j := by
 intro k
 induction k with
 | zero => simp [leastUp]
 | succ k ih =>
  rw [leastUp, Int.le_min, ih]
  constructor
  ·intro ⟨⟨h0, h1⟩, h2⟩
   refine ⟨h0, fun j hj => ?_⟩
   rcases zL j k with e | e
   ·exact h1 j e
   ·rw [show j = k by omega]; exact h2
  ·intro ⟨h0, h⟩
   exact ⟨⟨h0, fun j hj => h j (by omega)⟩, h k (by omega)⟩
theorem least_up {l s : List Int} {c : Nat} (hc : c < l.length) : least l s (c : Int) 0 = leastUp l s (c + 1) := by
 have h : ∀ y, y ≤ least l s (c : Int) 0 ↔ y ≤ leastUp l s (c + 1) := by
  intro y
  unfold least
  rw [leastF_le, leastUp_le]
  constructor
  ·intro ⟨h0, h⟩; exact ⟨h0, fun j hj => h j (by omega) (by omega) (by omega)⟩
  ·intro ⟨h0, h⟩; exact ⟨h0, fun j _ _ hc => h j (by omega)⟩
 have h1 := (h _).1 (Int.le_refl _)
 have h2 := (h _).2 (Int.le_refl _)
 omega
attribute [irreducible] at_ sfx least
end NestM
section
open Go.RowKit NestM
def iv (z : Int) : Value := .int .i64 z
theorem drewN_add (w : World) (k n : Nat) : (w.drewN k).drewN n = w.drewN (k + n) := by simp [World.drewN, Nat.add_assoc]
def LeftIs (l s : List Int) (c x e : Int) : Prop := (Right l s ∧ 0 ≤ c ∧ c < l.length ∧ x = least l s c 0 ∧ e = 0) ∨ (¬ (Right l s ∧ 0 ≤ c ∧ c < l.length) ∧ x = 0 ∧ e = 1)
def LeftPost (l s : List Int) (c : Int) (w : World) (e : Ending) (w' : World) : Prop := ∃ x y, e = .returned (.tuple #[.int .i64 x, .int .i64 y]) ∧ Fresh w w' ∧ LeftIs l s c x y
theorem cell_at {w : World} {B : Nat} {A : Option Addr} {l : List Int} (h : Rd w B A (l.map iv)) {k : Nat} (hk : k < l.length) : ∃ b o, A = some ⟨b, o, none⟩ ∧ w.cell? ⟨b, o + k, none⟩ = some (.int .i64 (at_ l k)) := by
 obtain ⟨b, o, hA, _, hc⟩ := h.at_ (k := k) (by simpa using hk)
 rw [List.getElem_map] at hc
 exact ⟨b, o, hA, by rw [hc, at_get hk]; rfl⟩
def Lim (l : List Int) : Prop := 1 ≤ l.length ∧ l.length ≤ 8 ∧ ∀ j, j < l.length → wi (at_ l j) = true ∧ (0 < j → at_ l j ≤ at_ l (j - 1))
def LimPost (l : List Int) (w : World) (e : Ending) (w' : World) : Prop := ∃ b n, e = .returned (.bool b) ∧ w' = w.drewN n ∧ (b = true ↔ Lim l)
def Small (s : List Int) : Prop := s.length ≤ 8 ∧ ∀ j, j < s.length → wi (at_ s j) = true
theorem sfx_part {s : List Int} (h : Small s) (i : Nat) : ∀ k, k ≤ i → i ≤ s.length → 0 ≤ sfx s k - sfx s i ∧ sfx s k - sfx s i ≤ 10000 * (i - k : Nat) := by
 intro k hk hi
 obtain ⟨d, rfl⟩ : ∃ d, i = k + d := ⟨i - k, by omega⟩
 clear hk
 induction d with
 | zero => simp
 | succ d ih =>
  have h1 := ih (by omega)
  have h2 := wi_true (h.2 (k + d) (by omega))
  have h3 := sfx_step (s := s) (k := k + d) (by omega)
  rw [show k + (d + 1) = k + d + 1 by omega]
  omega
theorem refFrom_any (w : World) (A : Option Addr) (ca : Nat) (s : List Int) (k : Nat) (hk : k ≤ s.length) (hsm : Small s) (hl : Rd w w.heap.size A (s.map iv)) :
 Calls Tryz.prog 103 #[.slice A s.length ca, .int .i64 (k : Int)] w fun e w' => e = .returned (.int .i64 (sfx s k)) ∧ w' = w := by
 have HL := zh hl
 clear hl
 go_in
 go_wp2_with fail
 go_loopw [5, 6] (fun v5 v6 wr => ∃ i : Nat, k ≤ i ∧ i ≤ s.length ∧ v5 = iv (sfx s k - sfx s i) ∧ v6 = iv i ∧ w = wr) (fun _ v6 _ => s.length - (intOf v6).toNat)
 case atStart => exact ⟨k, zf _, hk, by simp [iv], rfl, rfl⟩
 case round =>
  obtain ⟨i, hki, hi, rfl, rfl, rfl⟩ := hrel
  unfold iv
  by_cases hil : i < s.length
  ·obtain ⟨b, o, rfl, hc⟩ := cell_at HL.out hil
   have hi0 : (0 : Int) ≤ i := by omega
   have hs8 := hsm.1
   have hp := sfx_part hsm i k hki hi
   have hp0 : 0 ≤ sfx s k - sfx s i := hp.1
   have hp1 : sfx s k - sfx s i ≤ 100000 := by have := hsm.1; omega
   have hv := wi_true (hsm.2 i hil)
   have hv0 := hv.1
   have hv1 := hv.2
   have HST := zh (sfx_step hil)
   clear hp hv
   go_wp2_with fail
   go_roundw
   case rel => exact ⟨i + 1, by omega, by omega, by rw [HST.out]; congr 1; omega, by go_num, by first | rfl | trivial⟩
   case measure => simp [intOf]; omega
  ·obtain rfl : i = s.length := by omega
   have e : sfx s s.length = 0 := sfx_end (zf _)
   rw [e, Int.sub_zero]
   go_wp2_with fail
   go_ret
   exact ⟨rfl, rfl⟩
theorem refLimits_any (w : World) (A : Option Addr) (ca : Nat) (l : List Int) (hl : Rd w w.heap.size A (l.map iv)) :
 Calls Tryz.prog 117 #[.slice A l.length ca] w fun e w' => LimPost l w e w' := by
 have HL := zh hl
 clear hl
 by_cases h1 : l.length < 1
 ·go_in
  go_wp2_with fail
  go_ret
  exact ⟨false, 0, rfl, rfl, by simp [Lim]; omega⟩
 by_cases h2 : 8 < l.length
 ·go_in
  go_wp2_with fail
  go_ret
  exact ⟨false, 0, rfl, rfl, by simp [Lim]; omega⟩
 go_in
 go_wp2_with fail
 go_loopw [3] (fun v3 wr => ∃ i n : Nat, i ≤ l.length ∧ (∀ j, j < i → wi (at_ l j) = true ∧ (0 < j → at_ l j ≤ at_ l (j - 1))) ∧ v3 = iv i ∧ w.drewN n = wr) (fun v3 _ => l.length - (intOf v3).toNat)
 case atStart => exact ⟨0, 0, by omega, fun j h => by omega, rfl, rfl⟩
 case round =>
  obtain ⟨i, n, hi, hok, rfl, rfl⟩ := hrel
  have HOK := zh hok
  clear hok
  unfold iv
  by_cases hil : i < l.length
  ·obtain ⟨b, o, rfl, hc⟩ := cell_at HL.out hil
   have hc1 : ∀ n, (w.drewN n).cell? ⟨b, o + i, none⟩ = some (.int .i64 (at_ l i)) := fun _ => hc
   have hi0 : (0 : Int) ≤ i := by omega
   have bad0 : ∀ (_ : at_ l i < 0 ∨ 10000 < at_ l i ∨ (0 < i ∧ at_ l (i - 1) < at_ l i)), ¬ Lim l := by
    intro h hl
    obtain ⟨_, _, h3⟩ := hl
    have := h3 i hil
    have h4 := wi_true this.1
    rcases h with h | h | h
    ·omega
    ·omega
    ·have := this.2 h.1; omega
   have bad := zh bad0
   clear bad0
   generalize hx0 : at_ l i = x at bad hc hc1
   have hx := zh hx0
   clear hx0
   by_cases g1 : x < 0
   ·go_wp2_with fail
    go_quiet (fail)
    go_wp2_with fail
    go_ret
    exact ⟨false, n + nq, rfl, drewN_add _ _ _, by simpa using bad.out (.inl g1)⟩
   by_cases g2 : 10000 < x
   ·have d1 : decide (x < 0) = false := by simp; omega
    have d2 : decide (10000 < x) = true := by simp; omega
    go_wp2_with fail
    go_quiet (fail)
    go_wp2_with fail
    go_ret
    exact ⟨false, n + nq, rfl, drewN_add _ _ _, by simpa using bad.out (.inr (.inl g2))⟩
   have d1 : decide (x < 0) = false := by simp; omega
   have d2 : decide (10000 < x) = false := by simp; omega
   by_cases hz : 0 < i
   ·obtain ⟨j, rfl⟩ : ∃ j, i = j + 1 := ⟨i - 1, by omega⟩
    obtain ⟨b', o', hab, hc'⟩ := cell_at HL.out (show j < l.length by omega)
    obtain ⟨rfl, rfl⟩ : b = b' ∧ o = o' := by simpa using hab
    have hc1' : ∀ n, (w.drewN n).cell? ⟨b, o + j, none⟩ = some (.int .i64 (at_ l j)) := fun _ => hc'
    have hjl : j < l.length := by omega
    have hjl2 : (j : Int) < l.length := by omega
    generalize hy0 : at_ l j = y at hc' hc1' bad
    have hy := zh hy0
    clear hy0
    by_cases g3 : y < x
    ·have d3 : decide (y < x) = true := by simp; omega
     go_wp2_with fail
     go_quiet (fail)
     go_wp2_with fail
     go_ret
     exact ⟨false, n + nq, rfl, drewN_add _ _ _, by simp; exact bad.out (.inr (.inr ⟨hz, by simp; rw [hy.out]; exact g3⟩))⟩
    ·have d3 : decide (y < x) = false := by simp; omega
     go_wp2_with fail
     go_quiet (fail)
     go_wp2_with fail
     go_roundw
     case rel => exact ⟨j + 1 + 1, n + nq, by omega, (fun k hk => by
      rcases zL k (j + 1) with e | e
      ·exact HOK.out k e
      ·obtain rfl : k = j + 1 := by omega
       exact ⟨wi_mk (by rw [hx.out]; omega), fun _ => by simp; rw [hx.out, hy.out]; omega⟩), by go_num, by first | rfl | trivial⟩
     case measure => simp [intOf]; omega
   ·go_wp2_with fail
    go_quiet (fail)
    go_wp2_with fail
    go_roundw
    case rel => exact ⟨i + 1, n + nq, by omega, (fun k hk => by
     rcases zL k i with e | e
     ·exact HOK.out k e
     ·obtain rfl : k = i := by omega
      exact ⟨wi_mk (by rw [hx.out]; omega), fun h => absurd h hz⟩), by go_num, by first | rfl | trivial⟩
    case measure => simp [intOf]; omega
  ·obtain rfl : i = l.length := by omega
   go_wp2_with fail
   go_ret
   exact ⟨true, n, rfl, rfl, by simp; exact ⟨by omega, by omega, HOK.out⟩⟩
def RightPost (l s : List Int) (w : World) (e : Ending) (w' : World) : Prop := ∃ b n, e = .returned (.bool b) ∧ w' = w.drewN n ∧ (b = true ↔ Right l s)
theorem rd_drawn {w : World} {A : Option Addr} {xs : List Value} (h : Rd w w.heap.size A xs) (n : Nat) : Rd (w.drewN n) (w.drewN n).heap.size A xs := h
theorem nest_refRight_any (w : World) (A : Option Addr) (ca : Nat) (l : List Int) (B : Option Addr) (cb : Nat) (s : List Int) (hl : Rd w w.heap.size A (l.map iv)) (hs : Rd w w.heap.size B (s.map iv)) :
 Calls Tryz.prog 102 #[.slice A l.length ca, .slice B s.length cb] w fun e w' => RightPost l s w e w' := by
 have HL := zh hl
 have HS := zh hs
 clear hl hs
 go_in
 go_wp2_with fail
 refine (refLimits_any w A ca l HL.out).mono ?_
 rintro e w1 ⟨b, n, rfl, rfl, hb⟩
 have HB := zh hb
 clear hb
 have HNO := zh (show ¬ Lim l → ¬ Right l s from fun h hr => h ⟨hr.1.1.1, hr.1.1.2.1, fun j hj => ⟨(hr.1.2 j (by omega) hj).1, (hr.1.2 j (by omega) hj).2.2⟩⟩)
 cases b with
 | false =>
  go_wp2_with fail
  go_ret
  exact ⟨false, n, rfl, rfl, by simp; exact HNO.out (fun h => by have := HB.out.2 h; simp at this)⟩
 | true =>
  have hlim := HB.out.1 rfl
  have HLIM := zh hlim
  have h1 := hlim.1
  have h2 := hlim.2.1
  clear hlim HNO HB
  by_cases h3 : s.length = l.length
  ·go_wp2_with fail
   go_loopw [6] (fun v6 wr => ∃ i m : Nat, i ≤ s.length ∧ (∀ j, j < i → wi (at_ s j) = true) ∧ v6 = iv i ∧ w.drewN m = wr) (fun v6 _ => s.length - (intOf v6).toNat)
   case atStart => exact ⟨0, n, by omega, fun j h => by omega, rfl, by first | rfl | trivial⟩
   case round =>
    obtain ⟨i, m, hi, hok, rfl, rfl⟩ := hrel
    have HOK := zh hok
    clear hok
    unfold iv
    by_cases hil : i < s.length
    ·obtain ⟨b, o, rfl, hc⟩ := cell_at HS.out hil
     have hc1 : ∀ n, (w.drewN n).cell? ⟨b, o + i, none⟩ = some (.int .i64 (at_ s i)) := fun _ => hc
     have hi0 : (0 : Int) ≤ i := by omega
     generalize hx0 : at_ s i = x at hc hc1
     have hx := zh hx0
     clear hx0
     have bad := zh (show x < 0 ∨ 10000 < x → ¬ Right l s from fun h hr => by
      have := wi_true (hr.1.2 i (by omega) (by omega)).2.1
      rw [hx.out] at this
      omega)
     by_cases g1 : x < 0
     ·have d1 : decide (x < 0) = true := by simp; omega
      go_wp2_with fail
      go_ret
      exact ⟨false, m, rfl, rfl, by simpa using bad.out (.inl g1)⟩
     have d1 : decide (x < 0) = false := by simp; omega
     by_cases g2 : 10000 < x
     ·have d2 : decide (10000 < x) = true := by simp; omega
      go_wp2_with fail
      go_ret
      exact ⟨false, m, rfl, rfl, by simpa using bad.out (.inr g2)⟩
     ·have d2 : decide (10000 < x) = false := by simp; omega
      go_wp2_with fail
      go_roundw
      case rel => exact ⟨i + 1, m, by omega, (fun k hk => by
       rcases zL k i with e | e
       ·exact HOK.out k e
       ·obtain rfl : k = i := by omega
        exact wi_mk (by rw [hx.out]; omega)), by go_num, by first | rfl | trivial⟩
      case measure => simp [intOf]; omega
    ·obtain rfl : i = l.length := by omega
     have HSM := zh (show Small s from ⟨by omega, fun j hj => HOK.out j (by omega)⟩)
     have HO := zh (show Ok l s from ⟨⟨by omega, by omega, by omega⟩, fun j _ hj => ⟨(HLIM.out.2.2 j hj).1, HOK.out j (by omega), (HLIM.out.2.2 j hj).2⟩⟩)
     go_wp2_with fail
     go_loopw [7] (fun v7 wr => ∃ i m : Nat, i ≤ l.length ∧ (∀ j, j < i → sfx s j ≤ at_ l j) ∧ v7 = iv i ∧ w.drewN m = wr) (fun v7 _ => l.length - (intOf v7).toNat)
     case atStart => exact ⟨0, m, by omega, fun j h => by omega, rfl, by first | rfl | trivial⟩
     case round =>
      obtain ⟨i, m, hi, hok, rfl, rfl⟩ := hrel
      have HOK2 := zh hok
      clear hok
      unfold iv
      by_cases hil : i < l.length
      ·obtain ⟨b, o, rfl, hc⟩ := cell_at HL.out hil
       have hc1 : ∀ n, (w.drewN n).cell? ⟨b, o + i, none⟩ = some (.int .i64 (at_ l i)) := fun _ => hc
       have hi0 : (0 : Int) ≤ i := by omega
       generalize hx0 : at_ l i = x at hc hc1
       have hx := zh hx0
       clear hx0
       have hFR : ∀ x, Calls Tryz.prog 103 #[.slice B s.length cb, .int .i64 (i : Int)] (w.drewN (m + x)) fun e w' => e = .returned (.int .i64 (sfx s i)) ∧ ∃ n, w' = w.drewN (m + n) :=
        fun x => (refFrom_any (w.drewN (m + x)) B cb s i (by omega) HSM.out (rd_drawn HS.out (m + x))).mono fun e w' h => ⟨h.1, x, h.2⟩
       generalize hy0 : sfx s i = y at hFR
       have hy := zh hy0
       clear hy0
       rw [h3] at hFR
       have HFR := zh hFR
       clear hFR
       by_cases g1 : x < y
       ·have d1 : decide (x < y) = true := by simp; omega
        go_wp2_with fail
        go_quiet ((go_at_call 103; exact HFR.out _))
        go_wp2_with fail
        go_ret
        exact ⟨false, m + nq, rfl, drewN_add _ _ _, by
         simp
         intro hr
         have := (fine_iff l s 0 (zF _)).1 hr.2 i (zF _) hil
         rw [hx.out, hy.out] at this
         omega⟩
       ·have d1 : decide (x < y) = false := by simp; omega
        go_wp2_with fail
        go_quiet ((go_at_call 103; exact HFR.out _))
        go_wp2_with fail
        go_roundw
        case rel => exact ⟨i + 1, m + nq, by omega, (fun k hk => by
         rcases zL k i with e | e
         ·exact HOK2.out k e
         ·obtain rfl : k = i := by omega
          rw [hx.out, hy.out]; omega), by go_num, by first | rfl | trivial⟩
        case measure => simp [intOf]; omega
      ·obtain rfl : i = l.length := by omega
       go_wp2_with fail
       go_ret
       exact ⟨true, m, rfl, rfl, by simp; exact ⟨HO.out, (fine_iff l s 0 (zF _)).2 fun j _ hj => HOK2.out j hj⟩⟩
  ·have h3 : ((s.length : Int) != (l.length : Int)) = true := by rw [bne_iff_ne]; intro h; exact h3 (by omega)
   go_wp2_with fail
   go_ret
   exact ⟨false, n, rfl, rfl, by simp; intro hr; have := hr.1.1.2.2; simp at h3; omega⟩
theorem fresh_drawn (w : World) (n : Nat) : Fresh w (w.drewN n) := (za _ w).drewN n
theorem refLeft_any (w : World) (A : Option Addr) (ca : Nat) (l : List Int) (B : Option Addr) (cb : Nat) (s : List Int) (c : Int) (hl : Rd w w.heap.size A (l.map iv)) (hs : Rd w w.heap.size B (s.map iv)) :
 Calls Tryz.prog 85 #[.slice A l.length ca, .slice B s.length cb, .int .i64 c] w fun e w' => LeftPost l s c w e w' := by
 have HL := zh hl
 have HS := zh hs
 clear hl hs
 go_in
 go_wp2_with fail
 refine (nest_refRight_any w A ca l B cb s HL.out HS.out).mono ?_
 rintro e w1 ⟨b, n, rfl, rfl, hb⟩
 have HB := zh hb
 clear hb
 cases b with
 | false =>
  go_wp2_with fail
  go_ret2
  exact ⟨0, 1, rfl, fresh_drawn w n, .inr ⟨fun h => by have := HB.out.2 h.1; simp at this, rfl, rfl⟩⟩
 | true =>
  have HR := zh (HB.out.1 rfl)
  clear HB
  have h1 := HR.out.1.1.1
  have h2 := HR.out.1.1.2.1
  have h3 := HR.out.1.1.2.2
  by_cases g0 : c < 0
  ·have d0 : decide (c < 0) = true := by simp; omega
   go_wp2_with fail
   go_ret2
   exact ⟨0, 1, rfl, fresh_drawn w n, .inr ⟨fun h => by omega, rfl, rfl⟩⟩
  have d0 : decide (c < 0) = false := by simp; omega
  by_cases g1 : (l.length : Int) ≤ c
  ·have d1 : decide ((l.length : Int) ≤ c) = true := by simp; omega
   go_wp2_with fail
   go_ret2
   exact ⟨0, 1, rfl, fresh_drawn w n, .inr ⟨fun h => by omega, rfl, rfl⟩⟩
  obtain ⟨c, rfl⟩ := zA (show 0 ≤ c by omega)
  have d1 : decide ((l.length : Int) ≤ c) = false := by simp; omega
  have hcl : c < l.length := by omega
  have hc8 : c ≤ 8 := by omega
  have HSM := zh (show Small s from ⟨by omega, fun j hj => (HR.out.1.2 j (by omega) (by omega)).2.1⟩)
  go_wp2_with fail
  go_loopw [9, 10] (fun v9 v10 wr => ∃ i m : Nat, i ≤ c + 1 ∧ v9 = iv (leastUp l s i) ∧ v10 = iv i ∧ w.drewN m = wr) (fun _ v10 _ => c + 1 - (intOf v10).toNat)
  case atStart => exact ⟨0, n, by omega, rfl, rfl, by first | rfl | trivial⟩
  case round =>
   obtain ⟨i, m, hi, rfl, rfl, rfl⟩ := hrel
   unfold iv
   by_cases hic : i ≤ c
   ·have hil : i < l.length := by omega
    obtain ⟨b, o, rfl, hc⟩ := cell_at HL.out hil
    have hc1 : ∀ n, (w.drewN n).cell? ⟨b, o + i, none⟩ = some (.int .i64 (at_ l i)) := fun _ => hc
    have hi0 : (0 : Int) ≤ i := by omega
    have hx1 := wi_true (HR.out.1.2 i (by omega) hil).1
    have hy1 := sfx_part HSM.out s.length i (by omega) (zf _)
    rw [sfx_end (zf _)] at hy1
    generalize hx0 : at_ l i = x at hc hc1 hx1
    have hx := zh hx0
    clear hx0
    have hFR : ∀ x, Calls Tryz.prog 103 #[.slice B s.length cb, .int .i64 (i : Int)] (w.drewN (m + x)) fun e w' => e = .returned (.int .i64 (sfx s i)) ∧ ∃ n, w' = w.drewN (m + n) :=
     fun x => (refFrom_any (w.drewN (m + x)) B cb s i (by omega) HSM.out (rd_drawn HS.out (m + x))).mono fun e w' h => ⟨h.1, x, h.2⟩
    generalize hy0 : sfx s i = y at hFR hy1
    have hy := zh hy0
    clear hy0
    have hxa := hx1.1
    have hxb := hx1.2
    have hya : 0 ≤ y := by omega
    have hyb : y ≤ 100000 := by omega
    clear hx1 hy1
    rw [h3] at hFR
    have HFR := zh hFR
    clear hFR
    generalize hz0 : leastUp l s i = z
    have hz := zh hz0
    clear hz0
    go_wp2_with fail
    go_quiet ((go_at_call 103; exact HFR.out _))
    go_wp2_with fail
    go_roundw
    case rel => exact ⟨i + 1, m + nq, by omega, (by
     rw [leastUp, hz.out, hx.out, hy.out]
     try congr 1
     try (split <;> omega)), by go_num, by first | rfl | trivial⟩
    case measure => simp [intOf]; omega
   ·obtain rfl : i = c + 1 := by omega
    have e := least_up (s := s) hcl
    go_wp2_with fail
    go_ret2
    exact ⟨_, 0, rfl, fresh_drawn w m, .inl ⟨HR.out, by omega, by omega, e.symm, rfl⟩⟩
end
namespace NestM
def plus (s : List Int) (k : Nat) (m : Int) : List Int := s.set k (at_ s k + m)
def Asked (l s : List Int) (c : Int) : Prop := Right l s ∧ 0 ≤ c ∧ c < l.length
theorem sfx_pos {l s : List Int} (h : Ok l s) (j : Nat) (hj : j ≤ l.length) : 0 ≤ sfx s j := by
 have h0 : OkFrom l s j := fun i _ hi => h.2 i (by omega) hi
 exact (sfx_bd h.1.2.2 (l.length - j) j (by omega) h0).1
theorem right_fine {l s : List Int} (h : Right l s) {j : Nat} (hj : j < l.length) : sfx s j ≤ at_ l j := (fine_iff l s 0 (zF _)).1 h.2 j (zF _) hj
theorem le_least {l s : List Int} {c : Nat} (hc : c < l.length) (y : Int) : y ≤ least l s (c : Int) 0 ↔ y ≤ 10000 ∧ ∀ j : Nat, j ≤ c → y ≤ at_ l j - sfx s j := by
 rw [least_up hc, leastUp_le]
 constructor
 ·intro ⟨h0, h⟩; exact ⟨h0, fun j hj => h j (by omega)⟩
 ·intro ⟨h0, h⟩; exact ⟨h0, fun j hj => h j (by omega)⟩
theorem least_pos {l s : List Int} (h : Right l s) {c : Nat} (hc : c < l.length) : 0 ≤ least l s (c : Int) 0 := (le_least hc 0).2 ⟨by omega, fun j hj => by have := right_fine h (j := j) (by omega); omega⟩
theorem least_le {l s : List Int} {c : Nat} (hc : c < l.length) : least l s (c : Int) 0 ≤ 10000 := ((le_least hc _).1 (Int.le_refl _)).1
attribute [irreducible] plus
end NestM
section
open Go.RowKit NestM
theorem info_int : (Tryz.prog.info? 3).map (fun i => (i.zero, i.size, i.bytes)) = some (some (.int .i64 0), 1, 8) := by kernel_rfl
theorem iv_one (l : List Int) : ∀ u ∈ l.map iv, u.oneCell' = true := by
 intro u hu
 obtain ⟨_, _, rfl⟩ := zQ.1 hu
 rfl
theorem plus_map (s : List Int) (k : Nat) (m : Int) : (plus s k m).map iv = (s.map iv).set k (iv (at_ s k + m)) := by
 unfold plus
 rw [List.map_set]
def SellE (l s : List Int) (c m y : Int) : Prop :=
 (Asked l s c ∧ 1 ≤ m ∧ m ≤ 10000 ∧ m ≤ least l s c 0 ∧ y = 0) ∨ (Asked l s c ∧ 1 ≤ m ∧ m ≤ 10000 ∧ least l s c 0 < m ∧ y = 3) ∨ (¬ (Asked l s c ∧ 1 ≤ m ∧ m ≤ 10000) ∧ y = 1)
def SoldPost (s : List Int) (E : Int → Prop) (c d : Int) (w : World) (e : Ending) (w' : World) : Prop :=
 ∃ v y, e = .returned (.tuple #[v, .int .i64 y]) ∧ E y ∧ Fresh w w' ∧ ((y = 0 ∧ Sl w' w.heap.size 3 1 v s.length ((plus s c.toNat d).map iv)) ∨ (y ≠ 0 ∧ v = .slice none 0 0))
theorem leftIs_cases {l s : List Int} {c x y : Int} (h : LeftIs l s c x y) : (y = 0 ∧ Asked l s c ∧ x = least l s c 0) ∨ (y = 1 ∧ ¬ Asked l s c) := by
 rcases h with ⟨h1, h2, h3, h4, h5⟩ | ⟨h1, _, h⟩
 ·exact .inl ⟨h5, ⟨h1, h2, h3⟩, h4⟩
 ·exact .inr ⟨h, h1⟩
theorem refSell_any (w : World) (A : Option Addr) (ca : Nat) (l : List Int) (B : Option Addr) (cb : Nat) (s : List Int) (c m : Int) (hl : Rd w w.heap.size A (l.map iv)) (hs : Rd w w.heap.size B (s.map iv)) (hc : s.length ≤ cb) (hm : cb ≤ maxLen) :
 Calls Tryz.prog 120 #[.slice A l.length ca, .slice B s.length cb, .int .i64 c, .int .i64 m] w fun e w' => SoldPost s (SellE l s c m) c m w e w' := by
 have HL := zh hl
 have HS := zh hs
 obtain ⟨i0, hi, hz0, hz1, hz2⟩ := info_parts info_int
 clear hl hs
 go_in
 go_wp2_with fail
 refine (refLeft_any w A ca l B cb s c HL.out HS.out).mono ?_
 rintro e w1 ⟨x, y, rfl, F1, hx⟩
 have HS1 := zh ((HS.out.fresh (zf _) F1).more F1.size)
 have FF := zh F1
 clear F1
 rcases leftIs_cases hx with ⟨rfl, ha, hle⟩ | ⟨rfl, hno⟩
 ·have HA := zh ha
  have HE := zh hle
  clear ha hle hx
  obtain ⟨k, rfl⟩ := zA HA.out.2.1
  have hkl : k < l.length := by have := HA.out.2.2; omega
  have hsl : s.length = l.length := HA.out.1.1.1.2.2
  have hks : k < s.length := by omega
  have hs8 : s.length ≤ 8 := by have := HA.out.1.1.1.2.1; omega
  have hx1 : x ≤ 10000 := by rw [HE.out]; exact least_le hkl
  have HSL := zh hsl
  clear hsl
  have HV := zh (HA.out.1.1.2 k (zF _) hkl).2.1
  have hv0 : 0 ≤ at_ s k := (wi_true HV.out).1
  have hv1 : at_ s k ≤ 10000 := (wi_true HV.out).2
  have hk0 : (0 : Int) ≤ k := by omega
  have hk1 : (k : Int) < s.length := by omega
  have HTN := zh (show ((k : Int)).toNat = k from zx k)
  by_cases g1 : m < 1
  ·have d1 : decide (m < 1) = true := by simpa using g1
   go_wp2_with fail
   go_ret2
   exact ⟨_, 1, rfl, .inr (.inr ⟨fun h => by have := h.2.1; omega, rfl⟩), FF.out, .inr ⟨by decide, rfl⟩⟩
  have d1 : decide (m < 1) = false := by simpa using g1
  by_cases g2 : 10000 < m
  ·have d2 : decide (10000 < m) = true := by simpa using g2
   go_wp2_with fail
   go_ret2
   exact ⟨_, 1, rfl, .inr (.inr ⟨fun h => by have := h.2.2; omega, rfl⟩), FF.out, .inr ⟨by decide, rfl⟩⟩
  have d2 : decide (10000 < m) = false := by simpa using g2
  by_cases g3 : x < m
  ·have d3 : decide (x < m) = true := by simpa using g3
   have G3 := zh g3
   go_wp2_with fail
   go_ret2
   exact ⟨_, 3, rfl, .inr (.inl ⟨HA.out, by omega, by omega, by rw [← HE.out]; exact G3.out, rfl⟩), FF.out, .inr ⟨by decide, rfl⟩⟩
  ·have d3 : decide (x < m) = false := by simpa using g3
   have G3 := zh (show m ≤ x by omega)
   have S0 := zh (show Sl (w1.alloc (.cells #[] 3)) w1.heap.size 3 1 (.slice (some ⟨w1.heap.size, 0, none⟩) 0 0) 0 [] from sl_new w1 _ [] _ (zf _) (by simp [maxLen]))
   go_wp2_with (first
    | (
     at_builtin
     refine jD _ rfl (.tmp 33) (.tmp 34) _ rfl w1.heap.size 3 i0 _ 1 8 Tryz.underlying26 hi hz0 hz1 hz2 rfl (by omega) _ _ _ rfl S0.out _ _ _ _ _ rfl (by simp) (HS1.out.alloc (zf _) _) (iv_one _) (by unfold maxLen; omega) (by omega) (by simp) ?_
     intro v1 w2 hs1 hf1 ha1
     have F2 : Fresh w1 w2 := ((za _ w1).alloc _).trans' hf1 (fun i hi hk => by have := own_at hk; omega)
     rw [Nat.zero_add, List.nil_append] at hs1
     obtain ⟨g, o, cap, rfl, hg, hgl, hcap, hmax⟩ := hs1.head (by omega)
     have hc1 : w2.cell? ⟨g, o + k, none⟩ = some (.int .i64 (at_ s k)) := by
      rw [hs1.cell (j := k) (by simpa using hks), List.getElem_map, at_get hks]; rfl
     have hf3 := hs1.frozen (o + k)
     have HS2 := zh hs1
     have HF2 := zh F2
     unfold maxLen at hmax
     clear hs1 hf1 ha1 F2 S0))
   go_ret2
   refine ⟨_, 0, rfl, .inl ⟨HA.out, by omega, by omega, by rw [← HE.out]; exact G3.out, rfl⟩, FF.out.trans (HF2.out.trans' ((za (fun i => i = g) w2).setCell (p := ⟨g, o + k, none⟩) (fun _ => rfl) _) (fun i hi h => by omega)), .inl ⟨rfl, ?_⟩⟩
   rw [HTN.out, plus_map]
   exact (HS2.out.store (by simpa using hks) _).less FF.out.size
 ·have HNO := zh hno
  clear hno hx
  go_wp2_with fail
  go_ret2
  exact ⟨_, 1, rfl, .inr (.inr ⟨fun h => HNO.out h.1, rfl⟩), FF.out, .inr ⟨by decide, rfl⟩⟩
end
section
open Go.RowKit
structure Ha where
 ow : Int
 cl : Int
 mn : Int
 st : List Int
structure Fl where
 num : Int
 rows : Int
 gs : List Int
 lims : List Int
 hs : List Ha
def Hd.abs (h : Hd) : Ha := ⟨h.ow, h.cl, h.mn, h.st⟩
def FlM.abs (m : FlM) : Fl := ⟨m.num, m.rows, m.gs, m.lims, m.hs.map Hd.abs⟩
def placeA (ow : Int) : List Ha → Nat → Int
 | [], _ => -1
 | h :: r, i => if h.ow = ow then (i : Int) else placeA ow r (i + 1)
theorem placeA_eq (ow : Int) : ∀ (hs : List Hd) (i : Nat), placeF ow hs i = placeA ow (hs.map Hd.abs) i
 | [], _ => rfl
 | h :: r, i => by rw [zW, placeF, placeA, placeA_eq ow r]; rfl
theorem placeA_cases (ow : Int) : ∀ (hs : List Ha) (i : Nat), placeA ow hs i = -1 ∨ ∃ k : Nat, k < hs.length ∧ placeA ow hs i = ((i + k : Nat) : Int)
 | [], _ => .inl rfl
 | h :: r, i => by
  rw [placeA]
  by_cases hx : h.ow = ow
  ·rw [zl hx]; exact .inr ⟨0, by simp, rfl⟩
  ·rw [zk hx]
   rcases placeA_cases ow r (i + 1) with h1 | ⟨k, h1, h2⟩
   ·exact .inl h1
   ·exact .inr ⟨k + 1, by simp; omega, by rw [h2]; congr 1; omega⟩
def qI (hs : List Ha) : List Int := hs.flatMap (·.st)
theorem takenA_eq (hs : List Hd) : takenF hs = qI (hs.map Hd.abs) := by
 unfold takenF qI
 rw [List.flatMap_map]
 rfl
def soldSA (acc : List Int) (h : Ha) : List Int := acc.set h.cl.toNat ((acc[h.cl.toNat]?).getD 0 + h.mn)
def soldA (nl : Nat) (hs : List Ha) : List Int := hs.foldl soldSA (List.replicate nl 0)
theorem soldA_eq (nl : Nat) (hs : List Hd) : soldF nl hs = soldA nl (hs.map Hd.abs) := by
 unfold soldF soldA
 rw [List.foldl_map]
 rfl
open Classical in
noncomputable def leftV (l s : List Int) (k : Nat) : Int := if NestM.Right l s then NestM.least l s (k : Int) 0 else 0
theorem leftV_of {l s : List Int} {k : Nat} {x e : Int} (hk : k < l.length) (h : LeftIs l s (k : Int) x e) : x = leftV l s k := by
 unfold leftV
 rcases h with ⟨h1, _, _, h2, _⟩ | ⟨h1, h2, _⟩
 ·rw [zl h1]; exact h2
 ·rw [zk (fun h => h1 ⟨h, by omega, by omega⟩)]; exact h2
noncomputable def leftA (m : Fl) : List Int := (List.range m.lims.length).map (leftV m.lims (soldA m.lims.length m.hs))
theorem leftA_len (m : Fl) : (leftA m).length = m.lims.length := by simp [leftA]
theorem range_snoc (g : Nat → Int) (i : Nat) : (List.range (i + 1)).map g = (List.range i).map g ++ [g i] := by simp [List.range_succ]
theorem left15_any (w : World) (B f : Nat) (m : FlM) (h : FlAt w B f m) (hl : m.hs.length ≤ 1000) (hn : m.lims.length ≤ 8)
 (hb : ∀ x ∈ m.hs, 0 ≤ x.mn ∧ x.mn ≤ 1000000) (hc : ∀ x ∈ m.hs, 0 ≤ x.cl ∧ x.cl < (m.lims.length : Int)) :
 Calls Tryz.prog 71 #[.pointer (some ⟨f, 0, none⟩)] w fun e w' => OwnL w (leftA m.abs) e w' := by
 obtain ⟨i0, hi, hz0, hz1, hz2⟩ := info_parts info_i64
 obtain ⟨s, hs⟩ : ∃ s, s = soldF m.lims.length m.hs := ⟨_, rfl⟩
 have hsl : s.length = m.lims.length := by rw [hs, soldF_len]
 have HSO : Hid (∀ w', Fresh w w' → Calls Tryz.prog 86 #[.pointer (some ⟨f, 0, none⟩)] w' fun e w'' => OwnL w' s e w'') := zh fun w' F => by rw [hs]; exact sold15_any w' B f m (h.fresh F) hl hn hb hc
 have HY : Hid (∀ w', Fresh w w' → w'.cell? ⟨f, 3, none⟩ = some (.slice m.LA m.lims.length m.lc)) := zh fun w' F => (h.fresh F).blk.cell 3
 have HLE : Hid (∀ w' (k : Nat) A2 c2, Fresh w w' → Sl w' w.heap.size 3 1 (.slice A2 s.length c2) s.length (ivs s) → Calls Tryz.prog 85 #[.slice m.LA m.lims.length m.lc, .slice A2 s.length c2, .int .i64 (k : Int)] w' fun e w'' => LeftPost m.lims s (k : Int) w' e w'') := zh fun w' k A2 c2 F hsl => refLeft_any w' m.LA m.lc m.lims A2 c2 s k (h.fresh F).lsl.rd hsl.rd
 have HG : Hid (∀ k, k < m.lims.length → ∀ x y, LeftIs m.lims s (k : Int) x y → x = leftV m.lims s k) := zh fun k hk x y hx => leftV_of hk hx
 have HFIN : Hid (leftA m.abs = (List.range m.lims.length).map (leftV m.lims s)) := zh (by unfold leftA FlM.abs; dsimp only; rw [← soldA_eq, ← hs])
 generalize leftV m.lims s = g at HG HFIN
 generalize leftA m.abs = fin at HFIN ⊢
 rw [hsl] at HLE
 obtain ⟨nl, hnl⟩ : ∃ x, x = m.lims.length := ⟨_, rfl⟩
 rw [← hnl] at HY HLE HG HFIN hsl hn
 generalize m.LA = LA at HY HLE
 generalize m.lc = lc at HY HLE
 have y3 := HY.out w (za _ _)
 clear h hl hb hc hs hnl
 go_in
 go_wp2_with fail
 go_loopw [3, 4] (fun v3 v4 wr => ∃ (i : Nat) (acc : List Int), i ≤ nl ∧ v4 = .int .i64 (i : Int) ∧ acc = (List.range i).map g ∧ Sl wr w.heap.size 3 1 v3 acc.length (ivs acc) ∧ Fresh w wr) (fun _ v4 _ => nl - (intOf v4).toNat)
 case atStart => exact ⟨0, [], by omega, rfl, rfl, Sl.nil _ _ _ _, za _ _⟩
 case round =>
  obtain ⟨i, acc, hil, rfl, hacc, hsl3, hf⟩ := hrel
  have hlr : acc.length ≤ 8 := by rw [hacc]; simp; omega
  have HACC := zh hacc
  have hi0 : (0 : Int) ≤ (i : Int) := by omega
  have y3 := HY.out wr hf
  have HF := zh hf
  obtain ⟨A3, c3, rfl, hle3, hm3, _⟩ := hsl3.shape
  have HSL := zh hsl3
  clear hsl3 hf hacc
  by_cases hlt : i < nl
  ·have hlti : (i : Int) < (nl : Int) := by omega
   have HS1 := zh (HSO.out wr.drew HF.out.drew)
   have z3 := HY.out wr.drew HF.out.drew
   have HZ : Hid (∀ w', Fresh wr.drew w' → w'.cell? ⟨f, 3, none⟩ = some (.slice LA nl lc)) := zh fun w' F => HY.out w' (HF.out.drew.trans F)
   have HLL : Hid (∀ w2 A2 c2, Fresh wr.drew w2 → Sl w2 wr.drew.heap.size 3 1 (.slice A2 nl c2) nl (ivs s) → Calls Tryz.prog 85 #[.slice LA nl lc, .slice A2 nl c2, .int .i64 (i : Int)] w2 fun e w'' => ∃ y, e = .returned (.tuple #[.int .i64 (g i), .int .i64 y]) ∧ Fresh w2 w'') := zh fun w2 A2 c2 F hs2 => by
    refine (HLE.out w2 i A2 c2 (HF.out.drew.trans F) (hs2.less HF.out.drew.size)).mono ?_
    rintro e w'' ⟨x, y, rfl, f3, hx⟩
    exact ⟨y, by rw [HG.out i hlt x y hx], f3⟩
   go_wp2_with fail
   go_region_held3 (fun w' => w'.cell? ⟨f, 3, none⟩ = some (.slice LA nl lc)) (first | exact z3 | exact HZ.out _ HF2.out | exact HZ.out _ (HF2.out.trans HF3.out))
    (first
     | (go_at_call 86; show Calls _ _ #[_] wr.drew _; refine HS1.out.mono ?_; rintro e w2 ⟨v2, rfl, s2, f2⟩; rw [hsl] at s2; obtain ⟨A2, c2, rfl, _⟩ := s2.shape; have HS2 := zh s2; have HF2 := zh f2; clear f2 s2)
     | (go_at_call 85; show Calls _ _ #[_, _, _] w2 _; refine (HLL.out w2 _ _ HF2.out HS2.out).mono ?_; rintro e w3 ⟨y, rfl, f3⟩; have HF3 := zh f3; clear f3))
   have HF4 := zh ((HF.out.drew.trans HF2.out).trans HF3.out)
   have HSL4 := zh (HSL.out.fresh (Frm.trans (Frm.trans (za _ _).drew HF2.out) HF3.out))
   have R1 := zh (qE w3 (.int .i64 (g i)) 3)
   have HSA := zh (HSL4.out.alloc (.cells #[.int .i64 (g i)] 3))
   have t1 : acc.length + 1 ≤ maxLen := by unfold maxLen; omega
   have t2 : (acc.length + 1) * 8 ≤ 140737488355328 := by omega
   have t3 : w.heap.size ≤ (w3.alloc (.cells #[.int .i64 (g i)] 3)).heap.size := by have := HF4.out.size; rw [zJ]; omega
   have t4 : ∀ u ∈ [Value.int .i64 (g i)], u.oneCell' = true := fun u hu => by simp at hu; subst hu; rfl
   have HRG : Hid ((List.range (i + 1)).map g = acc ++ [g i]) := zh (by rw [range_snoc, HACC.out])
   go_wp2_with (at_builtin; refine jD _ rfl (.tmp 27) (.tmp 29) _ rfl w.heap.size 3 i0 _ 1 8 Tryz.underlying26 hi hz0 hz1 hz2 rfl Nat.one_pos _ acc.length _ rfl HSA.out _ _ 1 _ _ rfl rfl R1.out t4 t1 t2 t3 ?_; intro v5 x5 hs5 hf5 ha5)
   have HS5 : Hid (Sl x5 w.heap.size 3 1 v5 ((List.range (i + 1)).map g).length (ivs ((List.range (i + 1)).map g))) := zh (by rw [HRG.out]; exact snoc_sl hs5)
   have HF5 : Hid (Fresh w x5) := zh ((HF4.out.alloc _).trans' hf5 (fun k hk e => by have := (HSA.out.lt k e).1; omega))
   clear hs5 hf5 ha5
   go_roundw
   case rel => exact ⟨i + 1, (List.range (i + 1)).map g, by omega, by go_num, rfl, HS5.out, HF5.out⟩
   case measure => simp [intOf]; omega
  ·have hlti : ¬ (i : Int) < (nl : Int) := by omega
   obtain rfl : i = nl := by omega
   go_wp2_with fail
   go_ret
   unfold OwnL
   rw [HFIN.out, ← HACC.out]
   exact ⟨_, rfl, HSL.out, HF.out⟩
end
section
open Go.RowKit
def CutsAt (P : Program) (w : World) (t : TypeId) (size : Nat) (A : Option Addr) (n cap k : Nat) (xs : List Value) (A1 A2 : Option Addr) : Prop :=
 (∀ w', (Instr.sliceAt t (.slice A n cap) none (some (.int .i64 (k : Int))) none).run P w' = .ok (.slice A1 k cap) w') ∧
 (∀ w', (Instr.sliceAt t (.slice A n cap) (some (.int .i64 (k : Int))) none none).run P w' = .ok (.slice A2 (n - k) (cap - k)) w') ∧
 Rd w w.heap.size A1 (xs.take (k * size)) ∧ Rd w w.heap.size A2 (xs.drop (k * size))
theorem cuts_sl {P : Program} {w : World} {B e size n cap : Nat} {A : Option Addr} {xs : List Value} (t : TypeId) (i : TypeInfo) (ht : P.underlying t = some (.slice e)) (hi : P.info? e = some i) (hsz : i.size = size)
 (h : Sl w B e size (.slice A n cap) n xs) (k : Nat) (hk : k ≤ n) : ∃ A1 A2, CutsAt P w t size A n cap k xs A1 A2 := by
 have he : P.elem t = e := by simp [Program.elem, ht]
 have ht' : P.underlying t = some (.slice (P.elem t)) := by rw [he]; exact ht
 obtain ⟨A', cap', hv, hnc, hcm, hno⟩ := h.shape
 injection hv with h1 _ h3
 subst h1 h3
 have hr := h.rd
 have hA : A.map (·.add 0) = A := by
  rcases h.2 with ⟨hv, _⟩ | ⟨g, o, c, cur, hv, _⟩
  ·injection hv with h1; subst h1; rfl
  ·injection hv with h1; subst h1; rfl
 have hso : ∀ w' : World, (sizeOf (P.elem t)).run P w' = .ok size w' := fun w' => by rw [he]; simp [sizeOf, typeInfo, hi, hsz]
 refine ⟨A, (if cap = k then A else A.map (·.add (k * size))), fun w' => ?_, fun w' => ?_, hr.take _, ?_⟩
 ·rw [run_sliceAt_slice w' t _ _ _ _ ht', run_slice_h w' t A n cap ht' .i64 (k : Int) (by omega) (by omega), hso w']
  simp only [Result.andThen, sliced, zx, Nat.zero_mul, Nat.sub_zero]
  congr 2
  split
  ·rfl
  ·exact hA
 ·rw [run_sliceAt_slice w' t _ _ _ _ ht', run_slice_l w' t A n cap ht' .i64 (k : Int) (by omega) (by omega), hso w']
  simp only [Result.andThen, sliced, zx]
 ·intro hne
  have hl : k < n := by
   rcases zL k n with h' | h'
   ·exact h'
   ·exfalso
    apply hne
    apply List.drop_eq_nil_of_le
    rw [h.1]
    exact Nat.mul_le_mul_right _ h'
  obtain ⟨b, o, rfl, hb, hc⟩ := hr (by rintro rfl; simp at hne)
  rw [zk (by omega)]
  exact ⟨b, o + k * size, by simp [Addr.add_lit], hb, fun j u hu => by rw [Nat.add_assoc]; exact hc _ u (by rw [← hu, List.getElem?_drop])⟩
section
variable {P : Program} {w : World}
theorem jK {ops : Array Oper} {rest : List Oper} {o : Oper} {a : Act} {Q : Exit → Act → World → Prop} (hgd : o.guard = none) (s x : Operand) (t : TypeId)
 (ho : o.op = .call { callee := .builtin .append, args := #[s, x], argTypes := #[t, t] })
 (w0 : World) (e : TypeId) (i : TypeInfo) (z : Value) (size bytes : Nat) (ht : P.underlying t = some (.slice e)) (hi : P.info? e = some i) (hz : i.zero = some z)
 (hsize : i.size = size) (hby : i.bytes = bytes) (hzs : z.cells.size = size) (hsz : 0 < size)
 (v : Value) (n : Nat) (xs : List Value) (hs : a.eval s = v) (hown : Sl w w0.heap.size e size v n xs)
 (B' : Nat) (A : Option Addr) (m c : Nat) (news : List Value) (hx : a.eval x = .slice A m c) (hl : news.length = m * size) (hr : Rd w B' A news) (h1 : ∀ u ∈ news, u.oneCell' = true)
 (h63 : n + m ≤ 100000000) (hby2 : bytes ≤ 1000) (F : Fresh w0 w)
 (h : ∀ v' w', Sl w' w0.heap.size e size v' (n + m) (xs ++ news) → Fresh w0 w' → wpList P ops Q rest (a.put o.dst v') w') : wpList P ops Q (o :: rest) a w := by
 refine jD w hgd s x t ho w0.heap.size e i z size bytes ht hi hz hsize hby hzs hsz v n xs hs hown B' A m c news hx hl hr h1 (by unfold maxLen; omega) ?_ F.size ?_
 ·have := Nat.mul_le_mul h63 hby2
  omega
 ·intro v' w' h2 h3 _
  exact h v' w' h2 (F.trans' h3 (fun k hk e => by have := (hown.lt k e).1; omega))
theorem step_app {ops : Array Oper} {o : Oper} {a : Act} {K : Act → World → Prop} {Q : Exit → Act → World → Prop} {E : Prop} (hgd : o.guard = none) (s x : Operand) (t : TypeId)
 (ho : o.op = .call { callee := .builtin .append, args := #[s, x], argTypes := #[t, t] })
 (w0 : World) (e : TypeId) (i : TypeInfo) (z : Value) (size bytes : Nat) (ht : P.underlying t = some (.slice e)) (hi : P.info? e = some i) (hz : i.zero = some z)
 (hsize : i.size = size) (hby : i.bytes = bytes) (hzs : z.cells.size = size) (hsz : 0 < size)
 (v : Value) (n : Nat) (xs : List Value) (hs : a.eval s = v) (hown : Sl w w0.heap.size e size v n xs)
 (B' : Nat) (A : Option Addr) (m c : Nat) (news : List Value) (hx : a.eval x = .slice A m c) (hl : news.length = m * size) (hr : Rd w B' A news) (h1 : ∀ u ∈ news, u.oneCell' = true)
 (h63 : n + m ≤ 100000000) (hby2 : bytes ≤ 1000) (F : Fresh w0 w)
 (h : ∀ v' w', Sl w' w0.heap.size e size v' (n + m) (xs ++ news) → Fresh w0 w' → K (a.put o.dst v') w') :
 if Region.wanted o (yielded ops a.tmps) = true then Oper.wp P o a w K Q else E := by
 have hw : Region.wanted o (yielded ops a.tmps) = true := by simp [Region.wanted, hgd]
 rw [zl hw]
 obtain ⟨v', w', hrun, h2, h3, _⟩ := run_append_sl (P := P) w w0.heap.size t o.type e i z size bytes ht hi hz hsize hby hzs hsz v n xs hown B' A m c news hl hr h1 (by unfold maxLen; omega) (by have := Nat.mul_le_mul h63 hby2; omega) F.size
 unfold Oper.wp execOp
 simp only [ho, resolve, invoke, builtin, Sem.run_bind, Sem.run_pure, Result.andThen_ok, List.map_toArray, zW, List.map_nil, hs, hx, hrun]
 exact h v' w' h2 (F.trans' h3 (fun k hk e => by have := (hown.lt k e).1; omega))
end
theorem nil_sl (w : World) (e : TypeId) (size : Nat) : Sl (w.alloc (.cells #[] e)) w.heap.size e size (.slice (some ⟨w.heap.size, 0, none⟩) 0 0) 0 [] :=
 ⟨by simp, .inr ⟨w.heap.size, 0, 0, #[], rfl, zf _, Blk.new w _ _, zf _, by unfold maxLen; omega, by simp, fun j u hu => by simp at hu⟩⟩
theorem jC (w : World) (o : Obj) : Fresh w (w.alloc o) := (za _ w).alloc o
theorem flat_take4 {α : Type} (f : α → List Value) (size : Nat) (hf : ∀ a, (f a).length = size) : ∀ (l : List α) (k : Nat), (l.flatMap f).take (k * size) = (l.take k).flatMap f
 | [], k => by simp
 | x :: r, 0 => by simp
 | x :: r, k + 1 => by
  rw [zq, List.take_append, hf, zD (by rw [hf, Nat.add_mul]; omega), show (k + 1) * size - size = k * size by rw [Nat.add_mul]; omega, flat_take4 f size hf r k, List.take_succ_cons, zq]
theorem flat_drop4 {α : Type} (f : α → List Value) (size : Nat) (hf : ∀ a, (f a).length = size) : ∀ (l : List α) (k : Nat), (l.flatMap f).drop (k * size) = (l.drop k).flatMap f
 | [], k => by simp
 | x :: r, 0 => by simp
 | x :: r, k + 1 => by
  rw [zq, List.drop_append, hf, List.drop_of_length_le (by rw [hf, Nat.add_mul]; omega), show (k + 1) * size - size = k * size by rw [Nat.add_mul]; omega, flat_drop4 f size hf r k, List.drop_succ_cons, List.nil_append]
theorem hcel_one (l : List Hd) : ∀ u ∈ l.flatMap hcel, u.oneCell' = true := by
 intro u hu
 obtain ⟨h, _, hm⟩ := List.mem_flatMap.1 hu
 simp [hcel] at hm
 rcases hm with rfl | rfl | rfl | rfl <;> rfl
theorem info_h : (Tryz.prog.info? 167).map (fun i => (i.zero, i.size, i.bytes)) = some (some (.agg #[.int .i64 0, .int .i64 0, .int .i64 0, .slice none 0 0]), 4, 48) := by kernel_rfl
theorem FlAt.setH {w w1 : World} {B f : Nat} {m : FlM} {A3 : Option Addr} {c3 : Nat} {hs' : List Hd} (h : FlAt w1 B f m) (F : Fresh w w1)
 (hs : Sl w1 B 167 4 (.slice A3 hs'.length c3) hs'.length (hs'.flatMap hcel)) (hss : ∀ h ∈ hs', Sl w1 B 3 1 (.slice h.A h.st.length h.c) h.st.length (ivs h.st)) :
 FlAt (w1.setCell ⟨f, 4, none⟩ (.slice A3 hs'.length c3)) B f { m with HA := A3, hc := c3, hs := hs' } ∧ Frm (fun k => k = f) w (w1.setCell ⟨f, 4, none⟩ (.slice A3 hs'.length c3)) := by
 have FS : Frm (fun k => k = f) w1 (w1.setCell ⟨f, 4, none⟩ (.slice A3 hs'.length c3)) := (za (fun k => k = f) w1).setCell (p := ⟨f, 4, none⟩) (fun _ => rfl) _
 refine ⟨⟨?_, ?_, ?_, ?_, ?_⟩, F.frm.trans FS⟩
 ·exact h.blk.set 4 _
 ·exact h.gsl.frm FS (fun k hk e => (h.gsl.apart h.blk (by decide)) (by rw [hk, e]))
 ·exact h.lsl.frm FS (fun k hk e => (h.lsl.apart h.blk (by decide)) (by rw [hk, e]))
 ·exact hs.frm FS (fun k hk e => (hs.apart h.blk (by decide)) (by rw [hk, e]))
 ·exact fun x hx => (hss x hx).frm FS (fun k hk e => ((hss x hx).apart h.blk (by decide)) (by rw [hk, e]))
end
end Go.Proofs.YtnmokpbomeamfaaGreat

/- Proved here, for the statement TopFairCardSaid: laws that its walk leans on. It holds with no condition. (Put together and shortened by a program out of many texts: Nest7, Nest8, On13, On14, To3, Maps.) -/
import Derived.Test.YtbeaoddjomdlcaaGreatDoorZ07
import Derived.Test.YtbeaoddjomdlcaaGreatDoorZ08
import Derived.Test.YtbeaoddjomdlcaaGreatDoorZ05
set_option linter.unusedVariables false
set_option linter.unusedSimpArgs false
set_option maxRecDepth 100000
set_option maxHeartbeats 64000000
namespace Go.Proofs.YtbeaoddjomdlcaaGreatDoor
section
open Go.RowKit NestM
theorem info_int : (Tryz.prog.info? 3).map (fun i => (i.zero, i.size, i.bytes)) = some (some (.int .i64 0), 1, 8) := by kernel_rfl
theorem iv_one (l : List Int) : ∀ u ∈ l.map iv, u.oneCell' = true := by
  intro u hu
  obtain ⟨_, _, rfl⟩ := List.mem_map.1 hu
  rfl
theorem nest_nil_no (w : World) (a : Addr) (n c : Nat) : (binOp .eql 26 (.slice (some a) n c) (.slice none 0 0)).run Tryz.prog w = .ok (.bool false) w := by
  first | rfl | kernel_rfl | (simp [binOp, go_sem, Tryz.underlying26])
theorem clone_any (w : World) (B : Option Addr) (cb : Nat) (s : List Int) (hs : Rd w w.heap.size B (s.map iv)) (hl : s.length ≤ 8) (hp : 0 < s.length) (hc : s.length ≤ cb) (hm : cb ≤ maxLen) :
    Calls Tryz.prog 53 #[.slice B s.length cb] w fun e w' => ∃ v, e = .returned v ∧ Sl w' w.heap.size 3 1 v s.length (s.map iv) ∧ Fresh w w' := by
  unfold maxLen at hm
  obtain ⟨bB, oB, rfl, _⟩ := hs.at_ (k := 0) (by simpa using hp)
  obtain ⟨i0, hi, hz0, hz1, hz2⟩ := info_parts info_int
  have HS := zh hs
  clear hs
  have hnn := fun w n c => nest_nil_no w ⟨bB, oB, none⟩ n c
  go_in
  have S0 := zh (show Sl (w.alloc (.cells #[] 3)) w.heap.size 3 1 (.slice (some ⟨w.heap.size, 0, none⟩) 0 0) 0 [] from sl_new w _ [] _ (Nat.le_refl _) (by simp [maxLen]))
  have f0 : Fresh w (w.alloc (.cells #[] 3)) := (Frm.refl _ w).alloc _
  go_wp2_with (first
    | (at_builtin; refine wpList_append_sl _ rfl (.tmp 5) (.tmp 6) _ rfl w.heap.size 3 i0 _ 1 8 Tryz.underlying26 hi hz0 hz1 hz2 rfl (by omega) _ _ _ rfl S0.out _ _ _ _ _ rfl (by simp) (HS.out.alloc (Nat.le_refl _) _) (iv_one _) (by unfold maxLen; omega) (by omega) (by simp) ?_; intro v1 w2 hs1 hf1 ha1))
  have F2 : Fresh w w2 := f0.trans' hf1 (fun i hi hk => by have := own_at hk; omega)
  rw [Nat.zero_add, List.nil_append] at hs1
  go_wp2_with fail
  go_ret
  exact ⟨v1, rfl, hs1, F2⟩
theorem plus_map (s : List Int) (k : Nat) (m : Int) : (plus s k m).map iv = (s.map iv).set k (iv (at_ s k + m)) := by
  unfold plus
  rw [List.map_set]
theorem more_any (w : World) (B : Option Addr) (cb : Nat) (s : List Int) (k : Nat) (m : Int) (hs : Rd w w.heap.size B (s.map iv)) (hl : s.length ≤ 8) (hk : k < s.length) (hc : s.length ≤ cb) (hm : cb ≤ maxLen)
    (hv : wi (at_ s k) = true) (hm1 : -10000 ≤ m) (hm2 : m ≤ 10000) :
    Calls Tryz.prog 99 #[.slice B s.length cb, .int .i64 (k : Int), .int .i64 m] w fun e w' => ∃ v, e = .returned v ∧ Sl w' w.heap.size 3 1 v s.length ((plus s k m).map iv) ∧ Fresh w w' := by
  have HS := zh hs
  clear hs
  go_in
  go_wp2_with fail
  refine (clone_any w B cb s HS.out hl (by omega) hc hm).mono ?_
  rintro e w1 ⟨v, rfl, hsl, F1⟩
  obtain ⟨g, o, cap, rfl, hg, hgl, hcap, hmax⟩ := hsl.head (by omega)
  have hc1 : w1.cell? ⟨g, o + k, none⟩ = some (.int .i64 (at_ s k)) := by
    rw [hsl.cell (j := k) (by simpa using hk), List.getElem_map, at_get hk]; rfl
  have hf1 := hsl.frozen (o + k)
  have hv1 := (wi_true hv).1
  have hv2 := (wi_true hv).2
  have HSL := zh hsl
  clear hsl hv
  unfold maxLen at hmax hm
  have hk0 : (0 : Int) ≤ k := by omega
  have hk1 : (k : Int) < s.length := by omega
  go_wp2_with fail
  go_ret
  refine ⟨_, rfl, ?_, F1.trans' ((Frm.refl (fun i => i = g) w1).setCell (p := ⟨g, o + k, none⟩) (fun _ => rfl) _) (fun i hi h => by omega)⟩
  rw [plus_map]
  exact HSL.out.store (by simpa using hk) _
def SellE (l s : List Int) (c m y : Int) : Prop :=
  (Asked l s c ∧ 1 ≤ m ∧ m ≤ 10000 ∧ m ≤ least l s c 0 ∧ y = 0) ∨ (Asked l s c ∧ 1 ≤ m ∧ m ≤ 10000 ∧ least l s c 0 < m ∧ y = 3) ∨ (¬ (Asked l s c ∧ 1 ≤ m ∧ m ≤ 10000) ∧ y = 1)
theorem SellE.same {l s : List Int} {c m y y' : Int} (h : SellE l s c m y) (h' : SellE l s c m y') : y = y' := by
  rcases h with ⟨a1, a2, a3, a4, a5⟩ | ⟨a1, a2, a3, a4, a5⟩ | ⟨a1, a5⟩ <;> rcases h' with ⟨b1, b2, b3, b4, b5⟩ | ⟨b1, b2, b3, b4, b5⟩ | ⟨b1, b5⟩
  · omega
  · omega
  · exact absurd ⟨a1, a2, a3⟩ b1
  · omega
  · omega
  · exact absurd ⟨a1, a2, a3⟩ b1
  · exact absurd ⟨b1, b2, b3⟩ a1
  · exact absurd ⟨b1, b2, b3⟩ a1
  · omega
def BackE (l s : List Int) (c m y : Int) : Prop :=
  (Asked l s c ∧ 1 ≤ m ∧ m ≤ at_ s c.toNat ∧ y = 0) ∨ (¬ (Asked l s c ∧ 1 ≤ m ∧ m ≤ at_ s c.toNat) ∧ y = 1)
theorem BackE.same {l s : List Int} {c m y y' : Int} (h : BackE l s c m y) (h' : BackE l s c m y') : y = y' := by
  rcases h with ⟨a1, a2, a3, a4⟩ | ⟨a1, a5⟩ <;> rcases h' with ⟨b1, b2, b3, b4⟩ | ⟨b1, b5⟩
  · omega
  · exact absurd ⟨a1, a2, a3⟩ b1
  · exact absurd ⟨b1, b2, b3⟩ a1
  · omega
def SoldPost (s : List Int) (E : Int → Prop) (c d : Int) (w : World) (e : Ending) (w' : World) : Prop :=
  ∃ v y, e = .returned (.tuple #[v, .int .i64 y]) ∧ E y ∧ Fresh w w' ∧ ((y = 0 ∧ Sl w' w.heap.size 3 1 v s.length ((plus s c.toNat d).map iv)) ∨ (y ≠ 0 ∧ v = .slice none 0 0))
theorem leftIs_cases {l s : List Int} {c x y : Int} (h : LeftIs l s c x y) : (y = 0 ∧ Asked l s c ∧ x = least l s c 0) ∨ (y = 1 ∧ ¬ Asked l s c) := by
  rcases h with ⟨h1, h2, h3, h4, h5⟩ | ⟨h1, _, h⟩
  · exact .inl ⟨h5, ⟨h1, h2, h3⟩, h4⟩
  · exact .inr ⟨h, h1⟩
theorem sell_any (w : World) (A : Option Addr) (ca : Nat) (l : List Int) (B : Option Addr) (cb : Nat) (s : List Int) (c m : Int) (hl : Rd w w.heap.size A (l.map iv)) (hs : Rd w w.heap.size B (s.map iv)) (hc : s.length ≤ cb) (hm : cb ≤ maxLen) :
    Calls Tryz.prog 56 #[.slice A l.length ca, .slice B s.length cb, .int .i64 c, .int .i64 m] w fun e w' => SoldPost s (SellE l s c m) c m w e w' := by
  have HL := zh hl
  have HS := zh hs
  obtain ⟨i0, hi, hz0, hz1, hz2⟩ := info_parts info_int
  clear hl hs
  go_in
  go_wp2_with fail
  refine (left_any w A ca l B cb s c HL.out HS.out).mono ?_
  rintro e w1 ⟨x, y, rfl, F1, hx⟩
  have HS1 := zh ((HS.out.fresh (Nat.le_refl _) F1).more F1.size)
  have FF := zh F1
  clear F1
  rcases leftIs_cases hx with ⟨rfl, ha, hle⟩ | ⟨rfl, hno⟩
  · have HA := zh ha
    have HE := zh hle
    clear ha hle hx
    obtain ⟨k, rfl⟩ := Int.eq_ofNat_of_zero_le HA.out.2.1
    have hkl : k < l.length := by have := HA.out.2.2; omega
    have hsl : s.length = l.length := HA.out.1.1.1.2.2
    have hks : k < s.length := by omega
    have hs8 : s.length ≤ 8 := by have := HA.out.1.1.1.2.1; omega
    have hx1 : x ≤ 10000 := by rw [HE.out]; exact least_le hkl
    have HSL := zh hsl
    clear hsl
    have HV := zh (HA.out.1.1.2 k (Nat.zero_le _) hkl).2.1
    have hv0 : 0 ≤ at_ s k := (wi_true HV.out).1
    have hv1 : at_ s k ≤ 10000 := (wi_true HV.out).2
    have hk0 : (0 : Int) ≤ k := by omega
    have hk1 : (k : Int) < s.length := by omega
    have HTN := zh (show ((k : Int)).toNat = k from Int.toNat_natCast k)
    by_cases g1 : m < 1
    · have d1 : decide (m < 1) = true := by simpa using g1
      go_wp2_with fail
      go_ret2
      exact ⟨_, 1, rfl, .inr (.inr ⟨fun h => by have := h.2.1; omega, rfl⟩), FF.out, .inr ⟨by decide, rfl⟩⟩
    have d1 : decide (m < 1) = false := by simpa using g1
    by_cases g2 : 10000 < m
    · have d2 : decide (10000 < m) = true := by simpa using g2
      go_wp2_with fail
      go_ret2
      exact ⟨_, 1, rfl, .inr (.inr ⟨fun h => by have := h.2.2; omega, rfl⟩), FF.out, .inr ⟨by decide, rfl⟩⟩
    have d2 : decide (10000 < m) = false := by simpa using g2
    by_cases g3 : x < m
    · have d3 : decide (x < m) = true := by simpa using g3
      have G3 := zh g3
      go_wp2_with fail
      go_ret2
      exact ⟨_, 3, rfl, .inr (.inl ⟨HA.out, by omega, by omega, by rw [← HE.out]; exact G3.out, rfl⟩), FF.out, .inr ⟨by decide, rfl⟩⟩
    · have d3 : decide (x < m) = false := by simpa using g3
      have G3 := zh (show m ≤ x by omega)
      go_wp2_with fail
      refine (more_any _ B cb s k m HS1.out hs8 hks hc hm HV.out (by omega) (by omega)).mono ?_
      rintro e w2 ⟨v, rfl, hsl, F2⟩
      obtain ⟨g, o, cap, rfl, _⟩ := hsl.head (by omega)
      have HSL2 := zh hsl
      clear hsl
      go_wp2_with fail
      go_ret2
      exact ⟨_, 0, rfl, .inl ⟨HA.out, by omega, by omega, by rw [← HE.out]; exact G3.out, rfl⟩, FF.out.trans F2, .inl ⟨rfl, by rw [HTN.out]; exact HSL2.out.less FF.out.size⟩⟩
  · have HNO := zh hno
    clear hno hx
    go_wp2_with fail
    go_ret2
    exact ⟨_, 1, rfl, .inr (.inr ⟨fun h => HNO.out h.1, rfl⟩), FF.out, .inr ⟨by decide, rfl⟩⟩
theorem back_any (w : World) (A : Option Addr) (ca : Nat) (l : List Int) (B : Option Addr) (cb : Nat) (s : List Int) (c m : Int) (hl : Rd w w.heap.size A (l.map iv)) (hs : Rd w w.heap.size B (s.map iv)) (hc : s.length ≤ cb) (hm : cb ≤ maxLen) :
    Calls Tryz.prog 68 #[.slice A l.length ca, .slice B s.length cb, .int .i64 c, .int .i64 m] w fun e w' => SoldPost s (BackE l s c m) c (-m) w e w' := by
  have HL := zh hl
  have HS := zh hs
  obtain ⟨i0, hi, hz0, hz1, hz2⟩ := info_parts info_int
  clear hl hs
  go_in
  go_wp2_with fail
  refine (left_any w A ca l B cb s c HL.out HS.out).mono ?_
  rintro e w1 ⟨x, y, rfl, F1, hx⟩
  have HS1 := zh ((HS.out.fresh (Nat.le_refl _) F1).more F1.size)
  have FF := zh F1
  clear F1
  rcases leftIs_cases hx with ⟨rfl, ha, hle⟩ | ⟨rfl, hno⟩
  · have HA := zh ha
    have HE := zh hle
    clear ha hle hx
    obtain ⟨k, rfl⟩ := Int.eq_ofNat_of_zero_le HA.out.2.1
    have hkl : k < l.length := by have := HA.out.2.2; omega
    have hsl : s.length = l.length := HA.out.1.1.1.2.2
    have hks : k < s.length := by omega
    have hs8 : s.length ≤ 8 := by have := HA.out.1.1.1.2.1; omega
    have hx1 : x ≤ 10000 := by rw [HE.out]; exact least_le hkl
    have HSL := zh hsl
    clear hsl
    have HV := zh (HA.out.1.1.2 k (Nat.zero_le _) hkl).2.1
    have hv0 : 0 ≤ at_ s k := (wi_true HV.out).1
    have hv1 : at_ s k ≤ 10000 := (wi_true HV.out).2
    have hk0 : (0 : Int) ≤ k := by omega
    have hk1 : (k : Int) < s.length := by omega
    have HTN := zh (show ((k : Int)).toNat = k from Int.toNat_natCast k)
    obtain ⟨bB, oB, rfl, hcB⟩ := cell_at HS1.out hks
    by_cases g1 : m < 1
    · have d1 : decide (m < 1) = true := by simpa using g1
      go_wp2_with fail
      go_ret2
      exact ⟨_, 1, rfl, .inr ⟨fun h => by have := h.2.1; omega, rfl⟩, FF.out, .inr ⟨by decide, rfl⟩⟩
    have d1 : decide (m < 1) = false := by simpa using g1
    by_cases g3 : at_ s k < m
    · have d3 : decide (at_ s k < m) = true := by simpa using g3
      go_wp2_with fail
      go_ret2
      exact ⟨_, 1, rfl, .inr ⟨fun h => by have := h.2.2; rw [HTN.out] at this; omega, rfl⟩, FF.out, .inr ⟨by decide, rfl⟩⟩
    · have d3 : decide (at_ s k < m) = false := by simpa using g3
      go_wp2_with fail
      refine (more_any _ (some ⟨bB, oB, none⟩) cb s k (-m) HS1.out hs8 hks hc hm HV.out (by omega) (by omega)).mono ?_
      rintro e w2 ⟨v, rfl, hsl, F2⟩
      obtain ⟨g, o, cap, rfl, _⟩ := hsl.head (by omega)
      have HSL2 := zh hsl
      clear hsl
      go_wp2_with fail
      go_ret2
      exact ⟨_, 0, rfl, .inl ⟨HA.out, by omega, by rw [HTN.out]; omega, rfl⟩, FF.out.trans F2, .inl ⟨rfl, by rw [HTN.out]; exact HSL2.out.less FF.out.size⟩⟩
  · have HNO := zh hno
    clear hno hx
    go_wp2_with fail
    go_ret2
    exact ⟨_, 1, rfl, .inr ⟨fun h => HNO.out h.1, rfl⟩, FF.out, .inr ⟨by decide, rfl⟩⟩
end
section
open Go.RowKit
structure Ha where
  ow : Int
  cl : Int
  mn : Int
  st : List Int
structure Fl where
  num : Int
  rows : Int
  gs : List Int
  lims : List Int
  hs : List Ha
def Hd.abs (h : Hd) : Ha := ⟨h.ow, h.cl, h.mn, h.st⟩
def FlM.abs (m : FlM) : Fl := ⟨m.num, m.rows, m.gs, m.lims, m.hs.map Hd.abs⟩
end
section
open Go.RowKit
section
variable {P : Program} {w : World}
end
theorem fresh_alloc (w : World) (o : Obj) : Fresh w (w.alloc o) := (Frm.refl _ w).alloc o
theorem hcel_one (l : List Hd) : ∀ u ∈ l.flatMap hcel, u.oneCell' = true := by
  intro u hu
  obtain ⟨h, _, hm⟩ := List.mem_flatMap.1 hu
  simp [hcel] at hm
  rcases hm with rfl | rfl | rfl | rfl <;> rfl
theorem info_h : (Tryz.prog.info? 139).map (fun i => (i.zero, i.size, i.bytes)) = some (some (.agg #[.int .i64 0, .int .i64 0, .int .i64 0, .slice none 0 0]), 4, 48) := by kernel_rfl
end
section
open Go.RowKit
theorem info_bool : (Tryz.prog.info? 4).map (fun i => (i.zero, i.size, i.bytes)) = some (some (.bool false), 1, 1) := by kernel_rfl
theorem to_info_int : (Tryz.prog.info? 3).map (fun i => (i.zero, i.size, i.bytes)) = some (some (.int .i64 0), 1, 8) := by kernel_rfl
def bvs (l : List Bool) : List Value := l.map Value.bool
def barr (n : Nat) : Array Value := (bvs (List.replicate n false)).toArray
theorem made_bools (n : Nat) : madeCells (Value.bool false).cells (n * 1) = barr n := by
  unfold barr bvs
  apply Array.ext_getElem?
  intro j
  rw [Nat.mul_one]
  by_cases h : j < n
  · simp [madeCells, h, Value.cells, Nat.mod_one]
  · simp [madeCells, h]
theorem make_bools (n : Nat) (hn : n ≤ 1000) (w : World) : (Instr.makeSlice 197 (.int .i64 (n : Int)) (.int .i64 (n : Int))).run Tryz.prog w = .ok (.slice (some ⟨w.heap.size, 0, none⟩) n n) (w.alloc (.cells (barr n) 4)) := by
  obtain ⟨i0, hi, hz0, hz1, hz2⟩ := info_parts info_bool
  have hr := run_make (P := Tryz.prog) w 197 4 i0 _ Tryz.underlying197 hi hz0 .i64 .i64 n n (by omega) (Int.le_refl _) (by rw [hz2]; omega) (by omega)
  simp only [Int.toNat_natCast] at hr
  rw [hr, hz1, made_bools]
theorem barr_sl (w : World) (n : Nat) (h : n ≤ 1000) : Sl (w.alloc (.cells (barr n) 4)) w.heap.size 4 1 (.slice (some ⟨w.heap.size, 0, none⟩) n n) n (bvs (List.replicate n false)) := by
  have hl : (bvs (List.replicate n false)).length = n := by unfold bvs; simp
  have := sl_new w w.heap.size (bvs (List.replicate n false)) 4 (Nat.le_refl _) (by rw [hl]; unfold maxLen; omega)
  rw [hl] at this
  exact this
def Used (w : World) (B g ct : Nat) : Prop := ∃ bs : List Bool, bs.length = ct ∧ Sl w B 4 1 (.slice (some ⟨g, 0, none⟩) ct ct) ct (bvs bs)
theorem Used.frm {w w' : World} {B g ct : Nat} {S : Nat → Prop} (h : Used w B g ct) (F : Frm S w w') (hS : ¬ S g) : Used w' B g ct := by
  obtain ⟨bs, h1, h2⟩ := h
  exact ⟨bs, h1, h2.frm F (fun k hk e => by obtain rfl := own_at hk; exact hS e)⟩
theorem Used.cell {w : World} {B g ct : Nat} (h : Used w B g ct) {n : Nat} (hn : n < ct) : ∃ b, w.cell? ⟨g, n, none⟩ = some (.bool b) := by
  obtain ⟨bs, h1, h2⟩ := h
  have := h2.cell (j := n) (by unfold bvs; simpa [h1] using hn)
  rw [Nat.zero_add] at this
  unfold bvs at this
  rw [List.getElem_map] at this
  exact ⟨_, this⟩
theorem Used.frozen {w : World} {B g ct : Nat} (h : Used w B g ct) (n : Nat) : w.frozen? ⟨g, n, none⟩ = false := by
  obtain ⟨bs, h1, h2⟩ := h
  exact h2.frozen n
theorem Used.set {w : World} {B g ct : Nat} (h : Used w B g ct) {n : Nat} (hn : n < ct) (b : Bool) : Used (w.setCell ⟨g, n, none⟩ (.bool b)) B g ct := by
  obtain ⟨bs, h1, h2⟩ := h
  have := h2.store (j := n) (by unfold bvs; simpa [h1] using hn) (.bool b)
  rw [Nat.zero_add] at this
  refine ⟨bs.set n b, by simpa using h1, ?_⟩
  unfold bvs at this ⊢
  rw [List.map_set]
  exact this
theorem Used.blk {w : World} {B g ct : Nat} (h : Used w B g ct) : B ≤ g ∧ ∃ cs, Blk w g 4 cs := by
  obtain ⟨bs, h1, h2⟩ := h
  rcases h2.2 with ⟨hv, _⟩ | ⟨g', o, cap, cur, hv, hb, hh, _⟩
  · cases hv
  · injection hv with hv _ _
    injection hv with hv
    injection hv with hv _
    subst hv
    exact ⟨hb, cur, hh⟩
def seatB (l : List Int) : Prop := ∀ x ∈ l, 0 ≤ x ∧ x < 600
theorem seatB.snoc {l : List Int} (h : seatB l) {x : Int} (hx : 0 ≤ x ∧ x < 600) : seatB (l ++ [x]) := fun y hy => by
  rcases List.mem_append.1 hy with hy | hy
  · exact h y hy
  · rw [List.mem_singleton] at hy; rw [hy]; exact hx
structure BJ (w0 wr : World) (g ct : Nat) (v11 v12 : Value) (fl rl : List Int) : Prop where
  us : Used wr w0.heap.size g ct
  fs : Sl wr w0.heap.size 3 1 v11 fl.length (ivs fl)
  rs : Sl wr w0.heap.size 3 1 v12 rl.length (ivs rl)
  ap : ∀ k, v11.ownBlock = some k → v12.ownBlock ≠ some k
  fb : seatB fl
  rb : seatB rl
  ff : Fresh w0 wr
theorem BJ.fresh {w0 wr w' : World} {g ct : Nat} {v11 v12 : Value} {fl rl : List Int} (h : BJ w0 wr g ct v11 v12 fl rl) (F : Fresh wr w') : BJ w0 w' g ct v11 v12 fl rl :=
  ⟨h.us.frm F (fun f => f), h.fs.fresh F, h.rs.fresh F, h.ap, h.fb, h.rb, h.ff.trans F⟩
theorem BJ.none {w0 wr : World} {g ct : Nat} {v11 v12 : Value} {fl rl : List Int} (h : BJ w0 wr g ct v11 v12 fl rl) : BJ w0 wr g ct v11 (.slice none 0 0) fl [] :=
  ⟨h.us, h.fs, Sl.nil _ _ _ _, fun k _ hk => by simp [Value.ownBlock] at hk, h.fb, (fun x hx => by cases hx), h.ff⟩
theorem own_type {w : World} {B e size n k : Nat} {v : Value} {xs : List Value} (h : Sl w B e size v n xs) (hk : v.ownBlock = some k) : B ≤ k ∧ ∃ cs, Blk w k e cs := by
  rcases h.2 with ⟨rfl, _⟩ | ⟨g, o, cap, cur, rfl, hb, hh, _⟩
  · simp [Value.ownBlock] at hk
  · obtain rfl := own_at hk
    exact ⟨hb, cur, hh⟩
theorem BJ.addF {w0 wr w' : World} {g ct : Nat} {v11 v12 v' : Value} {fl rl : List Int} (h : BJ w0 wr g ct v11 v12 fl rl) {x : Int} (hx : 0 ≤ x ∧ x < 600)
    (hs : Sl w' w0.heap.size 3 1 v' (fl.length + 1) (ivs fl ++ [.int .i64 x])) (hf : Frm (fun k => v11.ownBlock = some k) wr w') (ha : v'.ownBlock = v11.ownBlock ∨ v'.ownBlock = some wr.heap.size) : BJ w0 w' g ct v' v12 (fl ++ [x]) rl := by
  obtain ⟨hg, cs, hb⟩ := h.us.blk
  refine ⟨h.us.frm hf (fun e => ?_), ?_, h.rs.frm hf (fun k hk e => h.ap k e hk), ?_, h.fb.snoc hx, h.rb, h.ff.trans' hf (fun i hi e => ?_)⟩
  · exact h.fs.apart hb (by decide) e
  · rw [List.length_append]; unfold ivs at hs ⊢; rw [List.map_append]; exact hs
  · intro k hk hk2
    rcases ha with e | e
    · exact h.ap k (by rw [← e]; exact hk) hk2
    · rw [e] at hk; injection hk with hk; have := (h.rs.lt k hk2).2; omega
  · have := (own_type h.fs e).1; omega
theorem BJ.addR {w0 wr w' : World} {g ct : Nat} {v11 v12 v' : Value} {fl rl : List Int} (h : BJ w0 wr g ct v11 v12 fl rl) {x : Int} (hx : 0 ≤ x ∧ x < 600)
    (hs : Sl w' w0.heap.size 3 1 v' (rl.length + 1) (ivs rl ++ [.int .i64 x])) (hf : Frm (fun k => v12.ownBlock = some k) wr w') (ha : v'.ownBlock = v12.ownBlock ∨ v'.ownBlock = some wr.heap.size) : BJ w0 w' g ct v11 v' fl (rl ++ [x]) := by
  obtain ⟨hg, cs, hb⟩ := h.us.blk
  refine ⟨h.us.frm hf (fun e => ?_), h.fs.frm hf (fun k hk e => h.ap k hk e), ?_, ?_, h.fb, h.rb.snoc hx, h.ff.trans' hf (fun i hi e => ?_)⟩
  · exact h.rs.apart hb (by decide) e
  · rw [List.length_append]; unfold ivs at hs ⊢; rw [List.map_append]; exact hs
  · intro k hk hk2
    rcases ha with e | e
    · exact h.ap k hk (by rw [← e]; exact hk2)
    · rw [e] at hk2; injection hk2 with hk2; have := (h.fs.lt k hk).2; omega
  · have := (own_type h.rs e).1; omega
def BestPost (w : World) (e : Ending) (w' : World) : Prop := ∃ (v : Value) (l : List Int) (k : Int), e = .returned (.tuple #[v, .int .i64 k]) ∧ l.length ≤ 600 ∧ seatB l ∧ Sl w' w.heap.size 3 1 v l.length (ivs l) ∧ Fresh w w'
theorem best_no {w w' : World} (F : Fresh w w') (k : Int) : BestPost w (.returned (.tuple #[.slice none 0 0, .int .i64 k])) w' := ⟨_, [], k, rfl, by simp, (fun x hx => by cases hx), Sl.nil _ _ _ _, F⟩
theorem head_sl {P : Program} {w : World} {B e n cap : Nat} {A : Option Addr} {xs : List Value} (t : TypeId) (i : TypeInfo) (ht : P.underlying t = some (.slice e)) (hi : P.info? e = some i)
    (h : Sl w B e 1 (.slice A n cap) n xs) (k : Nat) (hk : k ≤ n) (hk0 : 0 < k) : (∀ w', (Instr.sliceAt t (.slice A n cap) none (some (.int .i64 (k : Int))) none).run P w' = .ok (.slice A k cap) w') ∧ Sl w B e 1 (.slice A k cap) k (xs.take k) := by
  have he : P.elem t = e := by simp [Program.elem, ht]
  have ht' : P.underlying t = some (.slice (P.elem t)) := by rw [he]; exact ht
  obtain ⟨A', cap', hv, hnc, hcm, hno⟩ := h.shape
  injection hv with h1 _ h3
  subst h1 h3
  have hA : A.map (·.add 0) = A := by
    rcases h.2 with ⟨hv, _⟩ | ⟨g, o, c, cur, hv, _⟩
    · injection hv with h1; subst h1; rfl
    · injection hv with h1; subst h1; rfl
  have hso : ∀ w' : World, (sizeOf (P.elem t)).run P w' = .ok i.size w' := fun w' => by rw [he]; simp [sizeOf, typeInfo, hi]
  refine ⟨fun w' => ?_, ?_⟩
  · rw [run_sliceAt_slice w' t _ _ _ _ ht', run_slice_h w' t A n cap ht' .i64 (k : Int) (by omega) (by omega), hso w']
    simp only [Result.andThen, sliced, Int.toNat_natCast, Nat.zero_mul, Nat.sub_zero]
    congr 2
    split
    · rfl
    · exact hA
  · obtain ⟨g, o, c, hv, _⟩ := h.head (by omega)
    injection hv with h1 _ h3
    subst h1 h3
    exact h.cut0 hk _ (by omega) (Nat.le_refl _)
theorem best_free {w W wb : World} {g ct n k : Nat} {v12 : Value} {Ab : Option Addr} {cb : Nat} {fl rl : List Int} (F : Fresh w W) (h : BJ W wb g ct (.slice Ab n cb) v12 fl rl) (hs : Sl wb W.heap.size 3 1 (.slice Ab k cb) k ((ivs fl).take k)) (hk : k ≤ fl.length) (h6 : k ≤ 600) :
    BestPost w (.returned (.tuple #[.slice Ab k cb, .int .i64 0])) wb := by
  have e : (fl.take k).length = k := by rw [List.length_take]; omega
  refine ⟨_, fl.take k, 0, rfl, by omega, (fun x hx => h.fb x (List.mem_of_mem_take hx)), ?_, F.trans h.ff⟩
  rw [e]
  unfold ivs at hs ⊢
  rw [List.map_take]
  exact hs.less F.size
theorem best_yes {w W wb : World} {g ct n : Nat} {v11 : Value} {Ab : Option Addr} {cb : Nat} {fl rl : List Int} {x : Int} (F : Fresh w W) (h : BJ W wb g ct v11 (.slice Ab n cb) (fl ++ [x]) (rl ++ [x])) (hn : n = rl.length + 1) (h6 : n ≤ 600) :
    BestPost w (.returned (.tuple #[.slice Ab n cb, .int .i64 0])) wb := ⟨_, rl ++ [x], 0, rfl, by simp; omega, h.rb, h.rs.less F.size, F.trans h.ff⟩
theorem pBest_any (w : World) (r : Int) (A : Option Addr) (c : Nat) (gs : List Int) (hA : Rd w w.heap.size A (ivs gs)) (hs : small gs)
    (TA : Option Addr) (tc : Nat) (taken : List Int) (hT : Rd w w.heap.size TA (ivs taken)) (htl : taken.length ≤ 100000) (many : Int) :
    Calls Tryz.prog 73 #[.agg #[.int .i64 r, .slice A gs.length c], .slice TA taken.length tc, .int .i64 many] w fun e w' => BestPost w e w' := by
  obtain ⟨W, hW⟩ : ∃ W, w.alloc (.cells #[.int .i64 r, .slice A gs.length c] 33) = W := ⟨_, rfl⟩
  have hFW : Fresh w W := by rw [← hW]; exact (Frm.refl _ w).alloc _
  have hBX : Blk W w.heap.size 33 #[.int .i64 r, .slice A gs.length c] := by rw [← hW]; exact Blk.new w _ _
  have HF := zh hFW
  have HY : Hid (∀ w', Fresh W w' → w'.cell? ⟨w.heap.size, 0, none⟩ = some (.int .i64 r) ∧ w'.cell? ⟨w.heap.size, 1, none⟩ = some (.slice A gs.length c)) := zh fun w' F => ⟨(hBX.frm F (fun f => f)).cell 0, (hBX.frm F (fun f => f)).cell 1⟩
  obtain ⟨y0, y1⟩ := HY.out W (Frm.refl _ _)
  have hA2 := hA.fresh (Nat.le_refl _) hFW
  have HRD : Hid (∀ w', Fresh W w' → Rd w' w'.heap.size A (ivs gs)) := zh fun w' F => (hA2.fresh hFW.size F).more (Nat.le_trans hFW.size F.size)
  have HTD : Hid (∀ w', Fresh W w' → Rd w' w.heap.size TA (ivs taken)) := zh fun w' F => (hT.fresh (Nat.le_refl _) hFW).fresh hFW.size F
  obtain ⟨ct, hct⟩ : ∃ n : Nat, countL r gs = (n : Int) ∧ n ≤ 600 := ⟨(countL r gs).toNat, by have := countL_bd r gs; omega, by have := countL_bd r gs; omega⟩
  obtain ⟨hct, hct6⟩ := hct
  have HCN : Hid (∀ w', Fresh W w' → Calls Tryz.prog 51 #[.agg #[.int .i64 r, .slice A gs.length c]] w' fun e w'' => e = .returned (.int .i64 (ct : Int)) ∧ Fresh w' w'') := zh fun w' F => by
    rw [← hct]; exact pCount_any w' r A c gs (HRD.out w' F) hs
  have HHS : Hid (∀ w' (n : Int), Fresh W w' → Calls Tryz.prog 114 #[.agg #[.int .i64 r, .slice A gs.length c], .int .i64 n] w' fun e w'' => e = .returned (.bool (decide (0 ≤ n ∧ n < (ct : Int)))) ∧ Fresh w' w'') := zh fun w' n F => by
    rw [← hct]; exact pHas_any w' r A c gs n (HRD.out w' F) hs
  have HSD : Hid (0 < ct → ∀ w' (n : Int), Fresh W w' → 0 ≤ n → n < 600 → Calls Tryz.prog 115 #[.agg #[.int .i64 r, .slice A gs.length c], .int .i64 n] w' fun e w'' => SidesPost w' e w'') := zh fun h0 w' n F h1 h2 =>
    pSides_any w' r A c gs n (HRD.out w' F) (by
      rcases Bool.eq_false_or_eq_true (rightL r gs) with h | h
      · exact h
      · have : countL r gs = 0 := by unfold countL; rw [h]; rfl
        omega) h1 (by omega)
  obtain ⟨i0, hi', hz0, hz1, hz2⟩ := info_parts to_info_int
  clear hFW hBX hA hA2 hT hct hs
  by_cases g1 : 1 ≤ many
  · obtain ⟨mn, rfl⟩ := Int.eq_ofNat_of_zero_le (show 0 ≤ many by omega)
    have d1 : decide ((mn : Int) < 1) = false := decide_eq_false (by omega)
    by_cases g2 : (mn : Int) ≤ (ct : Int)
    · have d2 : decide (ct < mn) = false := decide_eq_false (by omega)
      have d2' : decide ((ct : Int) < (mn : Int)) = false := decide_eq_false (by omega)
      go_in
      go_wp2_with fail
      try rw [hW]
      clear hW
      refine (HCN.out W (Frm.refl _ _)).mono ?_
      rintro e w1 ⟨rfl, f1⟩
      obtain ⟨z0, z1⟩ := HY.out _ f1
      have HF1 := zh f1
      have HC1 := zh (HCN.out w1 f1)
      clear f1 y0 y1
      go_wp2_with fail
      refine HC1.out.mono ?_
      rintro e w2 ⟨rfl, f2⟩
      have HF2 := zh (HF1.out.trans f2)
      have hmk := make_bools ct (by omega) w2
      have hbs := barr_sl w2 ct (by omega)
      have HU : Hid (Used (w2.alloc (.cells (barr ct) 4)) W.heap.size w2.heap.size ct) := zh ⟨_, by simp, hbs.less HF2.out.size⟩
      have HFA := zh (HF2.out.trans ((Frm.refl _ w2).alloc (.cells (barr ct) 4)))
      have hgw : W.heap.size ≤ w2.heap.size := HF2.out.size
      clear f2 z0 z1 hbs
      go_wp2_with fail
      obtain ⟨gb, hgb⟩ : ∃ x, x = w2.heap.size := ⟨_, rfl⟩
      rw [← hgb] at HU hgw ⊢
      have HGB : Hid (W.heap.size ≤ gb) := zh hgw
      clear hgb hmk hgw
      generalize w2.alloc (.cells (barr ct) 4) = w3 at HU HFA ⊢
      go_loopw [29] (fun v29 wr => ∃ i : Nat, i ≤ taken.length ∧ v29 = .int .i64 (i : Int) ∧ Used wr W.heap.size gb ct ∧ Fresh W wr) (fun v29 _ => taken.length - (RowKit.intOf v29).toNat)
      case atStart => exact ⟨0, by omega, rfl, HU.out, HFA.out⟩
      case round =>
        obtain ⟨i, hi, rfl, hu, hf⟩ := hrel
        have hi0 : (0 : Int) ≤ (i : Int) := by omega
        have HU1 := zh hu
        have HF3 := zh hf
        obtain ⟨z0, z1⟩ := HY.out _ hf
        clear hu hf HU HFA
        by_cases hlt : i < taken.length
        · have hlti : (i : Int) < (taken.length : Int) := by omega
          obtain ⟨bT, oT, rfl, _, hcT⟩ := (HTD.out _ HF3.out).at_ (k := i) (by unfold ivs; simpa using hlt)
          unfold ivs at hcT
          rw [List.getElem_map] at hcT
          generalize taken[i] = n at hcT
          have HH := zh (HHS.out wr n HF3.out)
          by_cases hn : 0 ≤ n ∧ n < (ct : Int)
          · rw [decide_eq_true hn] at HH
            obtain ⟨hn0, hn1⟩ := hn
            go_wp2_with fail
            refine HH.out.mono ?_
            rintro e w4 ⟨rfl, f4⟩
            have HU4 := zh (HU1.out.frm f4 (fun f => f))
            obtain ⟨b, hb⟩ := HU4.out.cell (n := n.toNat) (by omega)
            have hz := HU4.out.frozen n.toNat
            have HU5 := zh (HU4.out.set (n := n.toNat) (by omega) true)
            have HF5 : Hid (Fresh W (w4.setCell ⟨gb, n.toNat, none⟩ (.bool true))) := zh ((HF3.out.trans f4).setCell (p := ⟨gb, n.toNat, none⟩) (fun hlt2 => by have := HGB.out; dsimp only at hlt2; omega) _)
            clear f4
            go_wp2_with fail
            go_roundw
            case rel => exact ⟨i + 1, by omega, by go_num, HU5.out, HF5.out⟩
            case measure => simp [RowKit.intOf]; omega
          · rw [decide_eq_false hn] at HH
            clear hn
            go_wp2_with fail
            refine HH.out.mono ?_
            rintro e w4 ⟨rfl, f4⟩
            have HU4 := zh (HU1.out.frm f4 (fun f => f))
            have HF4 := zh (HF3.out.trans f4)
            clear f4
            go_wp2_with fail
            go_roundw
            case rel => exact ⟨i + 1, by omega, by go_num, HU4.out, HF4.out⟩
            case measure => simp [RowKit.intOf]; omega
        · have hlti : ¬ (i : Int) < (taken.length : Int) := by omega
          have HC3 := zh (HCN.out wr HF3.out)
          go_wp2_with fail
          refine HC3.out.mono ?_
          rintro e w4 ⟨rfl, f4⟩
          have HU4 := zh (HU1.out.frm f4 (fun f => f))
          have HF4 := zh (HF3.out.trans f4)
          clear f4
          go_wp2_with fail
          clear HU1 HF3 hi0 hi hlt hlti z0 z1 HC3
          have hct0 : 0 < ct := by omega
          go_loopw [11, 12, 42] (fun v11 v12 v42 wr => ∃ (i : Nat) (fl rl : List Int), i ≤ ct ∧ fl.length ≤ i ∧ rl.length ≤ i ∧ v42 = .int .i64 (i : Int) ∧ BJ W wr gb ct v11 v12 fl rl) (fun _ _ v42 _ => ct - (RowKit.intOf v42).toNat)
          case atStart => exact ⟨0, [], [], by omega, by simp, by simp, rfl, HU4.out, Sl.nil _ _ _ _, Sl.nil _ _ _ _, (fun k hk => by simp [Value.ownBlock] at hk), (fun x hx => by cases hx), (fun x hx => by cases hx), HF4.out⟩
          case round =>
            obtain ⟨i, fl, rl, hi, hfl, hrl, rfl, hj⟩ := hrel
            have hi0 : (0 : Int) ≤ (i : Int) := by omega
            have HJ := zh hj
            obtain ⟨A11, c11, rfl, e11, e11', _⟩ := hj.fs.shape
            obtain ⟨A12, c12, rfl, e12, e12', _⟩ := hj.rs.shape
            obtain ⟨z0, z1⟩ := HY.out _ hj.ff
            clear hj HU4 HF4
            by_cases hlt : i < ct
            · have hlti : (i : Int) < (ct : Int) := by omega
              have HS := zh (HSD.out hct0 wr (i : Int) HJ.out.ff (by omega) (by omega))
              have HX := zh (show (0 : Int) ≤ (i : Int) ∧ (i : Int) < 600 by omega)
              go_wp2_with fail
              refine HS.out.mono ?_
              rintro e w5 ⟨a, b, ha1, ha2, rfl, f5⟩
              have HJ5 := zh (HJ.out.fresh f5)
              obtain ⟨u, hu⟩ := HJ5.out.us.cell (n := i) hlt
              clear f5 HJ
              have HJN := zh HJ5.out.none
              by_cases ha : a = 0
              · subst ha
                cases u with
                | true =>
                  go_wp2_with fail
                  go_roundw
                  case rel => exact ⟨i + 1, _, _, by omega, by omega, by simp, by go_num, HJN.out⟩
                  case measure => simp [RowKit.intOf]; omega
                | false =>
                  obtain ⟨n2, hn2⟩ : ∃ n, n = ([] : List Int).length + 1 := ⟨_, rfl⟩
                  have HN2 := zh hn2
                  have hlen1 : fl.length ≤ 600 := by omega
                  have hlen2 : n2 ≤ 600 := by rw [hn2]; simp
                  clear hn2
                  have HJ6 := zh (HJN.out.fresh ((Frm.refl _ w5).alloc (.cells #[.int .i64 (i : Int)] 3)))
                  have R1 := zh (rd_one w5 (.int .i64 (i : Int)) 3)
                  have HW6 := zh (HJ6.out.ff.size)
                  go_wp2_with (first
                    | (at_builtin; refine wpList_append_sl _ rfl (.tmp 63) (.tmp 65) _ rfl W.heap.size 3 i0 _ 1 8 Tryz.underlying26 hi' hz0 hz1 hz2 rfl (by omega) _ _ _ rfl HJ6.out.fs _ _ 1 _ _ rfl (by rfl) R1.out (fun u hu => by simp at hu; subst hu; rfl) (by unfold maxLen; omega) (by omega) HW6.out ?_; intro va wa hs1 hf1 hw1; have HJ7 := zh (HJ6.out.addF HX.out hs1 hf1 hw1); have HJ8 := zh (HJ7.out.fresh ((Frm.refl _ wa).alloc (.cells #[.int .i64 (i : Int)] 3))); have R2 := zh (rd_one wa (.int .i64 (i : Int)) 3); have HW8 := zh (HJ8.out.ff.size); clear hs1 hf1 hw1)
                    | (at_builtin; refine wpList_append_sl _ rfl (.tmp 67) (.tmp 69) _ rfl W.heap.size 3 i0 _ 1 8 Tryz.underlying26 hi' hz0 hz1 hz2 rfl (by omega) _ _ _ rfl HJ8.out.rs _ _ 1 _ _ rfl (by rfl) R2.out (fun u hu => by simp at hu; subst hu; rfl) (by have := HN2.out; unfold maxLen; omega) (by have := HN2.out; omega) HW8.out ?_; intro vb wb hs2 hf2 hw2; have HJ9 := zh (HJ8.out.addR HX.out hs2 hf2 hw2); rw [← HN2.out] at hs2; obtain ⟨Ab, cb, rfl, _, _, _⟩ := hs2.shape; clear hs2 hf2 hw2))
                  all_goals first
                    | (go_ret2
                       exact best_yes HF.out HJ9.out HN2.out hlen2)
                    | (go_roundw
                       case rel => exact ⟨i + 1, _, _, by omega, by simp only [List.length_append, List.length_singleton, List.length_nil]; omega, by simp only [List.length_append, List.length_singleton, List.length_nil]; omega, by go_num, HJ9.out⟩
                       case measure => simp [RowKit.intOf]; omega)
              · have d3 : (a == 0) = false := by rw [beq_eq_false_iff_ne]; exact ha
                clear ha
                cases u with
                | true =>
                  go_wp2_with fail
                  go_roundw
                  case rel => exact ⟨i + 1, _, _, by omega, by omega, by simp, by go_num, HJN.out⟩
                  case measure => simp [RowKit.intOf]; omega
                | false =>
                  obtain ⟨n2, hn2⟩ : ∃ n, n = rl.length + 1 := ⟨_, rfl⟩
                  have HN2 := zh hn2
                  have hlen1 : fl.length ≤ 600 := by omega
                  have hlen2 : n2 ≤ 600 := by omega
                  clear hn2
                  have HJ6 := zh (HJ5.out.fresh ((Frm.refl _ w5).alloc (.cells #[.int .i64 (i : Int)] 3)))
                  have R1 := zh (rd_one w5 (.int .i64 (i : Int)) 3)
                  have HW6 := zh (HJ6.out.ff.size)
                  go_wp2_with (first
                    | (at_builtin; refine wpList_append_sl _ rfl (.tmp 63) (.tmp 65) _ rfl W.heap.size 3 i0 _ 1 8 Tryz.underlying26 hi' hz0 hz1 hz2 rfl (by omega) _ _ _ rfl HJ6.out.fs _ _ 1 _ _ rfl (by rfl) R1.out (fun u hu => by simp at hu; subst hu; rfl) (by unfold maxLen; omega) (by omega) HW6.out ?_; intro va wa hs1 hf1 hw1; have HJ7 := zh (HJ6.out.addF HX.out hs1 hf1 hw1); have HJ8 := zh (HJ7.out.fresh ((Frm.refl _ wa).alloc (.cells #[.int .i64 (i : Int)] 3))); have R2 := zh (rd_one wa (.int .i64 (i : Int)) 3); have HW8 := zh (HJ8.out.ff.size); clear hs1 hf1 hw1)
                    | (at_builtin; refine wpList_append_sl _ rfl (.tmp 67) (.tmp 69) _ rfl W.heap.size 3 i0 _ 1 8 Tryz.underlying26 hi' hz0 hz1 hz2 rfl (by omega) _ _ _ rfl HJ8.out.rs _ _ 1 _ _ rfl (by rfl) R2.out (fun u hu => by simp at hu; subst hu; rfl) (by have := HN2.out; unfold maxLen; omega) (by have := HN2.out; omega) HW8.out ?_; intro vb wb hs2 hf2 hw2; have HJ9 := zh (HJ8.out.addR HX.out hs2 hf2 hw2); rw [← HN2.out] at hs2; obtain ⟨Ab, cb, rfl, _, _, _⟩ := hs2.shape; clear hs2 hf2 hw2))
                  all_goals first
                    | (go_ret2
                       exact best_yes HF.out HJ9.out HN2.out hlen2)
                    | (go_roundw
                       case rel => exact ⟨i + 1, _, _, by omega, by simp only [List.length_append, List.length_singleton, List.length_nil]; omega, by simp only [List.length_append, List.length_singleton, List.length_nil]; omega, by go_num, HJ9.out⟩
                       case measure => simp [RowKit.intOf]; omega)
            · have hie : i = ct := by omega
              have hlti : ¬ (i : Int) < (ct : Int) := by omega
              by_cases hm : fl.length < mn
              · have d6 : decide (fl.length < mn) = true := decide_eq_true hm
                have hmi : (fl.length : Int) < (mn : Int) := by omega
                clear hie hm
                go_wp2_with fail
                go_ret2
                exact best_no (HF.out.trans HJ.out.ff) 3
              · have d6 : decide (fl.length < mn) = false := decide_eq_false hm
                obtain ⟨q1, q2⟩ := head_sl 26 i0 Tryz.underlying26 hi' HJ.out.fs mn (by omega) (by omega)
                have HB := zh (best_free HF.out HJ.out q2 (by omega) (by omega))
                have hmi : ¬ (fl.length : Int) < (mn : Int) := by omega
                clear hie q2 hm
                go_wp2_with fail
                go_ret2
                exact HB.out
    · have d2 : decide (ct < mn) = true := decide_eq_true (by omega)
      have d2' : decide ((ct : Int) < (mn : Int)) = true := decide_eq_true (by omega)
      go_in
      go_wp2_with fail
      try rw [hW]
      clear hW
      refine (HCN.out W (Frm.refl _ _)).mono ?_
      rintro e w1 ⟨rfl, f1⟩
      have HF1 := zh (HF.out.trans f1)
      clear f1
      go_wp2_with fail
      go_ret2
      exact best_no HF1.out 1
  · have d1 : decide (many < 1) = true := decide_eq_true (by omega)
    clear g1
    go_in
    go_wp2_with fail
    go_ret2
    first | exact best_no HF.out 1 | (rw [hW]; exact best_no HF.out 1)
end
section
open Go.RowKit
section
variable {H : Type} {P : Program} {k : TypeId} {R : Value → Option (DataW H × List MemPlace)} {w w' : World} {b n : Nat} {D : DataW H}
theorem OM.same (h : w.ownsMap P k R b n D) (e : w'.heap[b]? = w.heap[b]?) : w'.ownsMap P k R b n D := by
  obtain ⟨es, clock, hb, r⟩ := h
  exact ⟨es, clock, e.trans hb, r⟩
theorem OM.frm {S : Nat → Prop} (h : w.ownsMap P k R b n D) (F : Frm S w w') (hn : ¬ S b) : w'.ownsMap P k R b n D := OM.same h (F.block b h.lt hn)
theorem OM.not_cells (h : w.ownsMap P k R b n D) {g : Nat} {t : TypeId} {cs : Array Value} (hg : Blk w g t cs) : b ≠ g := by
  rintro rfl
  obtain ⟨es, clock, hb, _⟩ := h
  unfold Blk at hg
  rw [hb] at hg
  injection hg with hg
  cases hg
theorem OM.ask {t e : TypeId} (h : w.ownsMap P k (plainElem P e) b n D) (K : Maps.Keyed P k) (ht : P.underlying t = some (.map k e)) (he : P.underlying e = some .bool) (hz : (zeroValue e).run P w = .ok (.bool false) w)
    {key : Value} {kl : Lit} (hkey : keyOf P k key = some kl) {r : Bool} (hr : D.atKey kl (.lit (.bool false)) = .lit (.bool r)) : (Instr.lookup t (.map (some b)) key false).run P w = .ok (.bool r) w := by
  obtain ⟨v, ps, hrun, hv⟩ := h.lookup K ht hz (plainElem_bool he false) hkey
  rw [hr] at hv
  unfold plainElem at hv
  rw [he] at hv
  cases v <;> simp at hv
  obtain ⟨rfl, _⟩ := hv
  exact hrun
end
end
end Go.Proofs.YtbeaoddjomdlcaaGreatDoor

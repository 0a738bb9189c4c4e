/- The law CrcLaid, walked. -/
import Derived.Test.YtppcfhlipoiakaaCrcLaws2
import Derived.Deep.OwnRows
import Derived.Deep.RegionHeld3
namespace Go.Proofs.Ytppcfhlipoiakaa
open Go.RowKit

theorem min2_int (w : World) (x y : Int) : (Builtin.min2 (.int .i64 x) (.int .i64 y)).run Try.prog w = .ok (.int .i64 (min x y)) w := by
  simp [Builtin.min2, go_sem]
  split <;> omega
theorem min4_int (w : World) (x y z u : Int) : (Builtin.min_ #[3, 3, 3, 3] 3 #[.int .i64 x, .int .i64 y, .int .i64 z, .int .i64 u]).run Try.prog w = .ok (.int .i64 (min (min (min x y) z) u)) w := by
  simp [Builtin.min_, go_sem, min2_int]
theorem xor_u8 (x y : UInt8) : bits .xor .u8 (x.toNat : Int) (y.toNat : Int) = ((x ^^^ y).toNat : Int) := by
  have h := u8_xor_nat x.toNat y.toNat x.toNat_lt y.toNat_lt
  rw [UInt8.toNat_xor]
  exact h
theorem byte_at {w : World} {B : Nat} {A : Option Addr} {l : List UInt8} (h : Rd w B A (l.map bv)) {k : Nat} (hk : k < l.length) : ∃ b o, A = some ⟨b, o, none⟩ ∧ w.cell? ⟨b, o + k, none⟩ = some (.int .u8 (l[k].toNat : Int)) := by
  obtain ⟨b, o, hA, _, hc⟩ := h.at_ (k := k) (by simpa using hk)
  rw [List.getElem_map] at hc
  exact ⟨b, o, hA, hc⟩
/-- as far as byte i laid over one another -/
def LaidTo (w : World) (g n : Nat) (f : Nat → UInt8) (i : Nat) : Prop := ∃ cs : Array Value, Blk w g 5 cs ∧ cs.size = n ∧ ∀ j, j < i → cs[j]? = some (bv (f j))
theorem LaidTo.has {w : World} {g n i : Nat} {f : Nat → UInt8} (h : LaidTo w g n f i) {j : Nat} (hj : j < n) : ∃ v, w.cell? ⟨g, j, none⟩ = some v := by
  obtain ⟨cs, hb, hs, _⟩ := h
  exact ⟨cs[j], by rw [hb.cell]; exact Array.getElem?_eq_getElem (by omega)⟩
theorem LaidTo.free {w : World} {g n i : Nat} {f : Nat → UInt8} (h : LaidTo w g n f i) (j : Nat) : w.frozen? ⟨g, j, none⟩ = false := by
  obtain ⟨cs, hb, _⟩ := h
  exact hb.frozen j
theorem LaidTo.set {w : World} {g n i : Nat} {f : Nat → UInt8} (h : LaidTo w g n f i) (hi : i < n) {v : Value} (hv : v = bv (f i)) : LaidTo (w.setCell ⟨g, i, none⟩ v) g n f (i + 1) := by
  obtain ⟨cs, hb, hs, hc⟩ := h
  refine ⟨_, hb.set i v, by simpa using hs, fun j hj => ?_⟩
  rw [Array.getElem?_setIfInBounds]
  by_cases he : i = j
  · subst he; rw [if_pos rfl, if_pos (by omega), hv]
  · rw [if_neg he]; exact hc j (by omega)
theorem LaidTo.drewN {w : World} {g n i : Nat} {f : Nat → UInt8} (h : LaidTo w g n f i) (k : Nat) : LaidTo (w.drewN k) g n f i := h
theorem LaidTo.rd {w : World} {g n : Nat} {f : Nat → UInt8} (h : LaidTo w g n f n) : Rd w w.heap.size (some ⟨g, 0, none⟩) (((List.range n).map f).map bv) := by
  obtain ⟨cs, hb, hs, hc⟩ := h
  intro _
  refine ⟨g, 0, rfl, hb.lt, fun j u hu => ?_⟩
  rw [Nat.zero_add, hb.cell]
  have hj : j < n := by
    have := (List.getElem?_eq_some_iff.1 hu).1
    simpa using this
  rw [hc j hj, ← hu]
  simp [hj]
theorem LaidTo.fresh {w w' : World} {g n i : Nat} {f : Nat → UInt8} (h : LaidTo w g n f i) (hf : Fresh w w') : LaidTo w' g n f i := by
  obtain ⟨cs, hb, hr⟩ := h
  exact ⟨cs, hb.frm hf (fun f => f), hr⟩
theorem lay3_range : ∀ (l m k : List UInt8), l.length = m.length → m.length = k.length → CrcM.lay3 l m k = (List.range l.length).map (fun j => l.getD j 0 ^^^ m.getD j 0 ^^^ k.getD j 0)
  | [], [], [], _, _ => rfl
  | x :: l, y :: m, z :: k, h1, h2 => by
    rw [CrcM.lay3, lay3_range l m k (by simpa using h1) (by simpa using h2), List.length_cons, List.range_succ_eq_map]
    simp [Function.comp_def]
theorem lay3_takes {a b c : List UInt8} {n : Nat} (ha : n ≤ a.length) (hb : n ≤ b.length) (hc : n ≤ c.length) : (List.range n).map (fun j => a.getD j 0 ^^^ b.getD j 0 ^^^ c.getD j 0) = CrcM.lay3 (a.take n) (b.take n) (c.take n) := by
  rw [lay3_range _ _ _ (by simp; omega) (by simp; omega)]
  have e : (a.take n).length = n := by simp; omega
  rw [e]
  apply List.map_congr_left
  intro j hj
  have : j < n := by simpa using hj
  simp [List.getD, List.getElem?_take, this]
theorem sum_len (A : Option Addr) (cap n : Nat) (bs : List UInt8) (w : World) (h : Rd w w.heap.size A (bs.map bv)) (hn : n = bs.length) (hl : bs.length ≤ 140737488351232) :
    Calls Try.prog 15 #[.slice A n cap] w fun e w' => e = .returned (.int .u32 ((CrcM.sum bs).toNat : Int)) ∧ Fresh w w' := by
  subst hn
  exact sum_any A cap bs w h hl
set_option maxHeartbeats 800000 in
theorem laid_walk (w : World) (A : Option Addr) (ca : Nat) (a : List UInt8) (ha : IsBytes w A ca a) (_ : ca ≤ 140737488351232) (B : Option Addr) (cb : Nat) (b : List UInt8) (hb : IsBytes w B cb b) (_ : cb ≤ 140737488351232) (C : Option Addr) (cc : Nat) (c : List UInt8) (hc : IsBytes w C cc c) (_ : cc ≤ 140737488351232) :
    Calls Try.prog 6 #[.slice A a.length ca, .slice B b.length cb, .slice C c.length cc] w fun e w' => e = .returned (.bool true) ∧ Below w.heap.size w w' := by
  have HA := Lib.hid ha.rd
  have HB := Lib.hid hb.rd
  have HC := Lib.hid hc.rd
  have hca := ha.le
  have hcb := hb.le
  have hcc := hc.le
  clear ha hb hc
  obtain ⟨n, hn, hna, hnb, hnc, hnk⟩ : ∃ n : Nat, min (min (min (a.length : Int) b.length) c.length) 100000 = (n : Int) ∧ n ≤ a.length ∧ n ≤ b.length ∧ n ≤ c.length ∧ n ≤ 100000 :=
    ⟨min (min (min a.length b.length) c.length) 100000, by omega, by omega, by omega, by omega, by omega⟩
  have k4 := fun w => min4_int w (a.length : Int) (b.length : Int) (c.length : Int) 100000
  rw [hn] at k4
  clear hn
  have hmk := run_make_row' (P := Try.prog) 27 5 (.int .u8 0) 1 Try.underlying27 info_u8 rfl .i64 .i64 n (by omega) (by omega)
  go_enter Try.func6, Try.ntmps6
  go_wp2_with fail
  go_loopw [9] (fun v9 wr => ∃ i : Nat, i ≤ n ∧ v9 = .int .i64 (i : Int) ∧ LaidTo wr w.heap.size n (fun j => (a.getD j 0 ^^^ b.getD j 0 ^^^ c.getD j 0)) i ∧ Fresh w wr) (fun v9 _ => n - (intOf v9).toNat)
  case atStart => exact ⟨0, by omega, rfl, ⟨_, Blk.new _ _ _, by simp [size_madeCells], fun j hj => by omega⟩, (Frm.refl _ _).alloc _⟩
  case round =>
    obtain ⟨i, hi, rfl, hlt, hfr⟩ := hrel
    have HLT := Lib.hid hlt
    clear hlt
    by_cases hin : i < n
    · obtain ⟨v0, hc0⟩ := HLT.out.has hin
      have hf0 := HLT.out.free i
      have hia : i < a.length := by omega
      have hib : i < b.length := by omega
      have hic : i < c.length := by omega
      obtain ⟨bA, oA, rfl, hcA⟩ := byte_at (HA.out.fresh (Nat.le_refl _) hfr) hia
      obtain ⟨bB, oB, rfl, hcB⟩ := byte_at (HB.out.fresh (Nat.le_refl _) hfr) hib
      obtain ⟨bC, oC, rfl, hcC⟩ := byte_at (HC.out.fresh (Nat.le_refl _) hfr) hic
      have ea : a.getD i 0 = a[i] := by simp [List.getD, hia]
      have eb : b.getD i 0 = b[i] := by simp [List.getD, hib]
      have ec : c.getD i 0 = c[i] := by simp [List.getD, hic]
      have x1 := xor_u8 a[i] b[i]
      have x2 := xor_u8 (a[i] ^^^ b[i]) c[i]
      generalize a[i] = xa at *
      generalize b[i] = xb at *
      generalize c[i] = xc at *
      have HE := Lib.hid (And.intro ea (And.intro eb ec))
      clear ea eb ec
      generalize hy0 : xa ^^^ xb = y at *
      have hy := Lib.hid hy0
      clear hy0
      generalize hz0 : y ^^^ xc = z at *
      have hz := Lib.hid hz0
      clear hz0
      go_wp2_with fail
      go_region
      go_wp2_with fail
      go_roundw
      case rel => exact ⟨i + 1, by omega, by go_num, HLT.out.set hin (by show _ = bv (a.getD i 0 ^^^ b.getD i 0 ^^^ c.getD i 0); rw [HE.out.1, HE.out.2.1, HE.out.2.2, hy.out, hz.out]; rfl), (hfr.setCell (p := ⟨w.heap.size, i, none⟩) (fun h => by simp at h) _).drew⟩
      case measure => simp [intOf]; omega
    · obtain rfl : i = n := by omega
      have kc := kc_bytes
      have HA1 := Lib.hid ((HA.out.fresh (Nat.le_refl _) hfr).more hfr.size)
      have HB1 := Lib.hid ((HB.out.fresh (Nat.le_refl _) hfr).more hfr.size)
      have HC1 := Lib.hid ((HC.out.fresh (Nat.le_refl _) hfr).more hfr.size)
      go_wp2_with fail
      refine (sum_nine _).mono ?_
      rintro e w2 ⟨rfl, F2⟩
      have HL2 := Lib.hid (HLT.out.fresh F2).rd
      have HA2 := Lib.hid (((HA1.out.take i).fresh (Nat.le_refl _) F2).more F2.size)
      have HB2 := Lib.hid (((HB1.out.take i).fresh (Nat.le_refl _) F2).more F2.size)
      have HC2 := Lib.hid (((HC1.out.take i).fresh (Nat.le_refl _) F2).more F2.size)
      have HSUM := Lib.hid (CrcM.sum_lay3 (a.take i) (b.take i) (c.take i) (by simp; omega) (by simp; omega))
      have eall := lay3_takes hna hnb hnc
      have K0 : ∀ v w3, Fresh w2 w3 → v = Value.slice (some ⟨w.heap.size, 0, none⟩) i i → Calls Try.prog 15 #[v] w3 fun e w' => e = .returned (.int .u32 ((CrcM.sum (CrcM.lay3 (a.take i) (b.take i) (c.take i))).toNat : Int)) ∧ Fresh w3 w' := by
        intro v w3 hf hv
        subst hv
        refine sum_len _ _ i _ w3 ?_ ?_ ?_
        · rw [← eall]; exact (HL2.out.fresh (Nat.le_refl _) hf).more hf.size
        · rw [← eall]; simp
        · rw [← eall]; simp; omega
      have K1 : ∀ v w3, Fresh w2 w3 → v = Value.slice A i ca → Calls Try.prog 15 #[v] w3 fun e w' => e = .returned (.int .u32 ((CrcM.sum (a.take i)).toNat : Int)) ∧ Fresh w3 w' := by
        intro v w3 hf hv
        subst hv
        refine sum_len _ _ i _ w3 ?_ (by simp; omega) (by simp; omega)
        rw [List.map_take]
        exact (HA2.out.fresh (Nat.le_refl _) hf).more hf.size
      have K2 : ∀ v w3, Fresh w2 w3 → v = Value.slice B i cb → Calls Try.prog 15 #[v] w3 fun e w' => e = .returned (.int .u32 ((CrcM.sum (b.take i)).toNat : Int)) ∧ Fresh w3 w' := by
        intro v w3 hf hv
        subst hv
        refine sum_len _ _ i _ w3 ?_ (by simp; omega) (by simp; omega)
        rw [List.map_take]
        exact (HB2.out.fresh (Nat.le_refl _) hf).more hf.size
      have K3 : ∀ v w3, Fresh w2 w3 → v = Value.slice C i cc → Calls Try.prog 15 #[v] w3 fun e w' => e = .returned (.int .u32 ((CrcM.sum (c.take i)).toNat : Int)) ∧ Fresh w3 w' := by
        intro v w3 hf hv
        subst hv
        refine sum_len _ _ i _ w3 ?_ (by simp; omega) (by simp; omega)
        rw [List.map_take]
        exact (HC2.out.fresh (Nat.le_refl _) hf).more hf.size
      have HK := Lib.hid (And.intro K0 (And.intro K1 (And.intro K2 K3)))
      clear K0 K1 K2 K3 eall
      have hia : (i : Int) ≤ ca := by omega
      have hib : (i : Int) ≤ cb := by omega
      have hic : (i : Int) ≤ cc := by omega
      go_wp2_with fail
      go_region_held3 (fun _ => True) (trivial) (first
        | (go_at_call 15; show Calls _ _ #[Value.slice (some ⟨w.heap.size, 0, none⟩) i i] w2.drew _; refine (HK.out.1 _ _ (Frm.refl _ _).drew rfl).mono ?_; rintro e w3 ⟨rfl, F3⟩)
        | (go_at_call 15; show Calls _ _ #[Value.slice A i ca] w3 _; refine (HK.out.2.1 _ _ ((Frm.refl _ _).drew.trans F3) rfl).mono ?_; rintro e w4 ⟨rfl, F4⟩)
        | (go_at_call 15; show Calls _ _ #[Value.slice B i cb] w4 _; refine (HK.out.2.2.1 _ _ (((Frm.refl _ _).drew.trans F3).trans F4) rfl).mono ?_; rintro e w5 ⟨rfl, F5⟩)
        | (go_at_call 15; show Calls _ _ #[Value.slice C i cc] w5 _; refine (HK.out.2.2.2 _ _ ((((Frm.refl _ _).drew.trans F3).trans F4).trans F5) rfl).mono ?_; rintro e w6 ⟨rfl, F6⟩))
      have hsum : (((CrcM.sum (CrcM.lay3 (a.take i) (b.take i) (c.take i))).toNat : Int) == bits .xor .u32 (bits .xor .u32 ((CrcM.sum (a.take i)).toNat : Int) ((CrcM.sum (b.take i)).toNat : Int)) ((CrcM.sum (c.take i)).toNat : Int)) = true := by
        rw [beq_iff_eq, xor_u32, xor_u32, HSUM.out]
      have FF : Fresh w w6 := (((hfr.trans F2).drew.trans F3).trans F4).trans (F5.trans F6)
      have HFF := Lib.hid FF.below
      clear FF
      rw [hsum]
      go_wp2_with fail
      go_ret
      exact ⟨rfl, HFF.out⟩
end Go.Proofs.Ytppcfhlipoiakaa

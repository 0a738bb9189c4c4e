/- Proved here, for the statement ClientOnceSaid: laws that its walk leans on. It holds with no condition. (Put together and shortened by a program out of many texts: On7, On8, On3, On4, On9, On10.) -/
import Derived.Test.YtnmokpbomeamfaaGreatZ01
set_option linter.unusedVariables false
set_option maxRecDepth 100000
set_option maxHeartbeats 64000000
namespace Go.Proofs.YtnmokpbomeamfaaGreat
section
open Go.RowKit
def six (ds : List Int) : List Value := ivs ds ++ List.replicate (6 - ds.length) (.int .i64 0)
theorem six_put {ds : List Int} (h : ds.length < 6) (x : Int) : (six ds).toArray.setIfInBounds ds.length (.int .i64 x) = (six (ds ++ [x])).toArray := by
 have e : 6 - ds.length = (6 - (ds ++ [x]).length) + 1 := by simp; omega
 unfold six
 rw [e, List.replicate_succ]
 simp only [List.setIfInBounds_toArray]
 congr 1
 rw [List.set_append_right _ _ (by simp)]
 simp
theorem six_get {ds : List Int} (h : ds.length < 6) : (six ds)[ds.length]? = some (.int .i64 0) := by
 unfold six
 have e : ds.length - (ivs ds).length = 0 := by simp
 rw [List.getElem?_append_right (by simp), e, List.getElem?_replicate, zl (by omega)]
theorem six_at {ds : List Int} {i : Nat} (h : i < ds.length) : (six ds)[i]? = some (.int .i64 ds[i]) := by
 unfold six
 rw [List.getElem?_append_left (by simpa using h)]
 simp [h]
def valF (l : List Int) : Int := l.foldl (fun n d => n * 31 + d) 0
theorem valF_snoc (l : List Int) (d : Int) : valF (l ++ [d]) = valF l * 31 + d := by simp [valF]
def b31 : Nat → Int
 | 0 => 1
 | n + 1 => 31 * b31 n
theorem b31_pos : ∀ n, 1 ≤ b31 n
 | 0 => by decide
 | n + 1 => by have := b31_pos n; unfold b31; omega
theorem fold_le : ∀ (l : List Int) (a : Int), (∀ d ∈ l, 0 ≤ d ∧ d ≤ 30) → 0 ≤ a → 0 ≤ l.foldl (fun n d => n * 31 + d) a ∧ l.foldl (fun n d => n * 31 + d) a + 1 ≤ (a + 1) * b31 l.length
 | [], a, _, h => by simp [b31]; omega
 | d :: t, a, hd, h => by
  have h1 := hd d (by simp)
  have h2 := fold_le t (a * 31 + d) (fun x hx => hd x (List.mem_cons_of_mem _ hx)) (by omega)
  have h3 : (a * 31 + d + 1) * b31 t.length ≤ ((a + 1) * 31) * b31 t.length := Int.mul_le_mul_of_nonneg_right (by omega) (by have := b31_pos t.length; omega)
  rw [List.foldl_cons, zG, b31, ← Int.mul_assoc]
  exact ⟨h2.1, Int.le_trans h2.2 h3⟩
theorem b31_mono : ∀ {m n : Nat}, m ≤ n → b31 m ≤ b31 n := by
 intro m n h
 induction h with
 | refl => exact Int.le_refl _
 | step h ih => rename_i k; have := b31_pos k; rw [show b31 (k + 1) = 31 * b31 k from rfl]; omega
theorem valF_le {l : List Int} (h : ∀ d ∈ l, 0 ≤ d ∧ d ≤ 30) (h5 : l.length ≤ 5) : 0 ≤ valF l ∧ valF l < 28629151 := by
 have h1 := fold_le l 0 h (by omega)
 have h2 := b31_mono h5
 have h3 : b31 5 = 28629151 := by decide
 unfold valF
 rw [Int.zero_add, Int.one_mul] at h1
 omega
def sumL (l : List Int) : Int := 2 * l.getD 0 0 + 3 * l.getD 1 0 + 4 * l.getD 2 0 + 5 * l.getD 3 0 + 6 * l.getD 4 0 + l.getD 5 0
def readP (b : List UInt8) : Int × Int :=
 if b.length = 6 ∧ (∀ x ∈ b, 0 ≤ jV x) ∧ sumL (b.map jV) % 31 = 0 then (valF ((b.map jV).take 5), 0) else (0, 6)
theorem index_str {b : List UInt8} {i : Nat} (h : i < b.length) (w : World) : (Instr.index 9 (.string (str b)) (.int .i64 (i : Int))).run Tryz.prog w = .ok (.int .u8 ((b[i]).toNat : Int)) w := by
 have hs : (str b).size = b.length := by unfold str; rw [ByteArray.size]; simp
 rw [run_index_string _ _ _ _ _ Tryz.underlying9, dif_pos ⟨by omega, by omega⟩]
 rfl
theorem readP_no {b : List UInt8} (h : ¬ (b.length = 6 ∧ (∀ x ∈ b, 0 ≤ jV x) ∧ sumL (b.map jV) % 31 = 0)) : readP b = (0, 6) := zk h
theorem six_nats {ds : List Int} (h : ds.length = 6) (h0 : ∀ d ∈ ds, 0 ≤ d ∧ d ≤ 30) : ∃ n0 n1 n2 n3 n4 n5 : Nat, ds = [(n0 : Int), (n1 : Int), (n2 : Int), (n3 : Int), (n4 : Int), (n5 : Int)] ∧ (n0 ≤ 30 ∧ n1 ≤ 30 ∧ n2 ≤ 30 ∧ n3 ≤ 30 ∧ n4 ≤ 30 ∧ n5 ≤ 30) := by
 match ds, h, h0 with
 | [a, b, c, d, e, f], _, h0 =>
  have ha := h0 a (by simp)
  have hb := h0 b (by simp)
  have hc := h0 c (by simp)
  have hd := h0 d (by simp)
  have he := h0 e (by simp)
  have hf := h0 f (by simp)
  refine ⟨a.toNat, b.toNat, c.toNat, d.toNat, e.toNat, f.toNat, ?_, by omega⟩
  rw [Int.toNat_of_nonneg ha.1, Int.toNat_of_nonneg hb.1, Int.toNat_of_nonneg hc.1, Int.toNat_of_nonneg hd.1, Int.toNat_of_nonneg he.1, Int.toNat_of_nonneg hf.1]
theorem take_worth {b : List UInt8} {i : Nat} (h : i < b.length) : (b.take (i + 1)).map jV = (b.take i).map jV ++ [jV b[i]] := by
 rw [zu h, zn]
 rfl
def ReadPost (w : World) (v : Int × Int) (e : Ending) (w' : World) : Prop := e = .returned (.tuple #[.int .i64 v.1, .int .i64 v.2]) ∧ Fresh w w'
theorem read_any (w : World) (b : List UInt8) (hb : b.length ≤ 1000000) : Calls Tryz.prog 81 #[.string (str b)] w fun e w' => ReadPost w (readP b) e w' := by
 have hsz : (str b).size = b.length := by unfold str; rw [ByteArray.size]; simp
 obtain ⟨S, hS⟩ : ∃ S, S = str b := ⟨_, rfl⟩
 have HIX : Hid (∀ (i : Nat) (h : i < b.length) (w : World), (Instr.index 9 (.string S) (.int .i64 (i : Int))).run Tryz.prog w = .ok (.int .u8 ((b[i]).toNat : Int)) w) := zh fun i h w => by rw [hS]; exact index_str h w
 rw [← hS] at hsz ⊢
 clear hS
 by_cases h6 : b.length = 6
 ·have hs6 : S.size = 6 := by rw [hsz, h6]
  have H6 := zh h6
  obtain ⟨q, hq⟩ : ∃ q, w.heap.size = q := ⟨_, rfl⟩
  obtain ⟨W, hW⟩ : ∃ W, w.alloc (.cells #[.int .i64 0, .int .i64 0, .int .i64 0, .int .i64 0, .int .i64 0, .int .i64 0] 163) = W := ⟨_, rfl⟩
  have HF : Hid (Fresh w W) := zh (by rw [← hW]; exact (za _ w).alloc _)
  have HB : Hid (Blk W q 163 (six []).toArray) := zh (by rw [← hW, ← hq]; exact Blk.new w _ _)
  have HQ := zh hq
  clear h6 hsz hb
  go_in
  go_wp2_with fail
  try rw [hq]
  try rw [hW]
  clear hW hq
  go_loopw [5, 6] (fun v5 v6 wr => ∃ (i : Nat) (ds : List Int), i ≤ 6 ∧ v6 = .int .i64 (i : Int) ∧ ds.length = i ∧ ds = (b.take i).map jV ∧ (∀ d ∈ ds, 0 ≤ d ∧ d ≤ 30) ∧ v5 = .int .i64 (valF (ds.take 5)) ∧ Blk wr q 163 (six ds).toArray ∧ Fresh w wr) (fun _ v6 _ => 6 - (intOf v6).toNat)
  case atStart => exact ⟨0, [], by omega, rfl, rfl, rfl, (fun d hd => by cases hd), rfl, HB.out, HF.out⟩
  case round =>
   obtain ⟨i, ds, hi, rfl, hlen, hds, hnn, rfl, hblk, hf⟩ := hrel
   have hi0 : (0 : Int) ≤ (i : Int) := by omega
   have HBK := zh hblk
   have HFR := zh hf
   have HDS := zh hds
   have HNN := zh hnn
   have HLN := zh hlen
   have hvl := valF_le (l := ds.take 5) (fun d hd => hnn d (List.mem_of_mem_take hd)) (by rw [zw]; omega)
   by_cases hlt : i < 6
   ·have hlti : (i : Int) < 6 := by omega
    have d0 : decide ((i : Int) < 6) = true := zc hlti
    have hib : i < b.length := by rw [H6.out]; exact hlt
    have hx := HIX.out i hib
    have hwl := worthV_le b[i]
    have HTW := zh (take_worth hib)
    have HMB := zh (ze hib)
    have HWC := zh (worth_any b[i] wr)
    have y0 : wr.cell? ⟨q, i, none⟩ = some (.int .i64 0) := by rw [hblk.cell i, ← hlen]; simpa using six_get (by omega)
    have z0 : wr.frozen? ⟨q, i, none⟩ = false := hblk.frozen i
    generalize b[i] = c at hx hwl HTW HMB HWC
    obtain ⟨x, hxv⟩ : ∃ x, x = jV c := ⟨_, rfl⟩
    rw [← hxv] at hwl HTW HWC
    have HXV := zh hxv
    obtain ⟨V, hV⟩ : ∃ V, wr.setCell ⟨q, i, none⟩ (.int .i64 x) = V := ⟨_, rfl⟩
    have HBV : Hid (Blk V q 163 (six (ds ++ [x])).toArray) := zh (by rw [← hV, ← six_put (by omega) x, hlen]; exact hblk.set i _)
    have HFV : Hid (Fresh w V) := zh (by rw [← hV]; exact hf.setCell (p := ⟨q, i, none⟩) (fun h => by have := HQ.out; simp at h; omega) _)
    have k0 : V.cell? ⟨q, i, none⟩ = some (.int .i64 x) := by
     rw [HBV.out.cell i]
     have := six_at (ds := ds ++ [x]) (i := i) (by simp; omega)
     simpa [hlen] using this
    clear hblk hf hds hnn hlen hxv
    go_wp2_with fail
    refine HWC.out.mono ?_
    rintro e w' ⟨rfl, hw'⟩
    rw [hw']
    clear hw' w'
    by_cases hneg : x < 0
    ·have d1 : decide (x < 0) = true := zc hneg
     have HV : Hid (readP b = (0, 6)) := zh (readP_no (fun h => by have h1 := h.2.1 _ HMB.out; rw [← HXV.out] at h1; omega))
     go_wp2_with fail
     exact zi (v := .tuple #[.int .i64 0, .int .i64 6]) (by simp [results, Tryz.results81, go_sem]) rfl ⟨by rw [HV.out], HFV.out⟩
    ·have d1 : decide (x < 0) = false := zb hneg
     have HND : Hid (∀ d ∈ ds ++ [x], 0 ≤ d ∧ d ≤ 30) := zh fun d hd => by
      rcases zy.1 hd with h | h
      ·exact HNN.out d h
      ·rw [zO] at h; omega
     have HN1 : Hid (ds ++ [x] = (b.take (i + 1)).map jV) := zh (by rw [HDS.out, HTW.out])
     by_cases h5 : i < 5
     ·have h5i : (i : Int) < 5 := by omega
      have d2 : decide ((i : Int) < 5) = true := zc h5i
      have HT1 : Hid (ds.take 5 = ds) := zh (zD (by have := HLN.out; omega))
      have HT2 : Hid ((ds ++ [x]).take 5 = ds ++ [x]) := zh (zD (by have := HLN.out; simp; omega))
      have HVN : Hid (valF ((ds ++ [x]).take 5) = valF (ds.take 5) * 31 + x) := zh (by rw [HT1.out, HT2.out, valF_snoc])
      generalize valF (ds.take 5) = n at hvl HVN
      have wn : IntKind.i64.wrap (n * 31) = n * 31 := zm _ (by omega)
      have wx : IntKind.i64.wrap (n * 31 + x) = n * 31 + x := zm _ (by omega)
      go_wp2_with fail
      go_roundw
      case rel => exact ⟨i + 1, ds ++ [x], by omega, by go_num, by rw [zg, HLN.out]; rfl, HN1.out, HND.out, by rw [HVN.out], HBV.out, HFV.out⟩
      case measure => simp [intOf]; omega
     ·have h5i : ¬ (i : Int) < 5 := by omega
      have d2 : decide ((i : Int) < 5) = false := zb h5i
      have HVN : Hid (valF ((ds ++ [x]).take 5) = valF (ds.take 5)) := zh (by rw [List.take_append_of_le_length (by have := HLN.out; omega)])
      go_wp2_with fail
      go_roundw
      case rel => exact ⟨i + 1, ds ++ [x], by omega, by go_num, by rw [zg, HLN.out]; rfl, HN1.out, HND.out, by rw [HVN.out], HBV.out, HFV.out⟩
      case measure => simp [intOf]; omega
   ·have hlti : ¬ (i : Int) < 6 := by omega
    have d0 : decide ((i : Int) < 6) = false := zb hlti
    obtain rfl : i = 6 := by omega
    obtain ⟨n0, n1, n2, n3, n4, n5, hd6, b0, b1, b2, b3, b4, b5⟩ := six_nats hlen hnn
    have hbw : ds = b.map jV := by rw [hds, zD (by rw [H6.out]; omega)]
    subst hd6
    have y0 : wr.cell? ⟨q, 0, none⟩ = some (.int .i64 (n0 : Int)) := hblk.cell 0
    have y1 : wr.cell? ⟨q, 1, none⟩ = some (.int .i64 (n1 : Int)) := hblk.cell 1
    have y2 : wr.cell? ⟨q, 2, none⟩ = some (.int .i64 (n2 : Int)) := hblk.cell 2
    have y3 : wr.cell? ⟨q, 3, none⟩ = some (.int .i64 (n3 : Int)) := hblk.cell 3
    have y4 : wr.cell? ⟨q, 4, none⟩ = some (.int .i64 (n4 : Int)) := hblk.cell 4
    have y5 : wr.cell? ⟨q, 5, none⟩ = some (.int .i64 (n5 : Int)) := hblk.cell 5
    have HSM := zh (sum_any wr n0 n1 n2 n3 n4 n5 (by omega) (by omega) (by omega) (by omega) (by omega) (by omega))
    have HSV : Hid (sumL (b.map jV) = (sumV n0 n1 n2 n3 n4 n5 : Int)) := zh (by rw [← hbw]; unfold sumL sumV; simp <;> omega)
    have hsb : sumV n0 n1 n2 n3 n4 n5 ≤ 1000 := by unfold sumV; omega
    generalize sumV n0 n1 n2 n3 n4 n5 = sv at HSM HSV hsb
    obtain ⟨t, ht⟩ : ∃ t, t = sv % 31 := ⟨_, rfl⟩
    have s1 : (sv : Int).tmod 31 = (t : Int) := by rw [jB (by omega), ht]; rfl
    have HALL : Hid (∀ x ∈ b, 0 ≤ jV x) := zh fun x hx => (hnn (jV x) (by rw [hbw]; exact List.mem_map_of_mem hx)).1
    have HVV : Hid (valF ((b.map jV).take 5) = valF ([(n0 : Int), (n1 : Int), (n2 : Int), (n3 : Int), (n4 : Int), (n5 : Int)].take 5)) := zh (by rw [hbw])
    have HT := zh ht
    clear hblk hf hds hnn hlen hbw ht HBK HDS HNN HLN
    generalize valF ([(n0 : Int), (n1 : Int), (n2 : Int), (n3 : Int), (n4 : Int), (n5 : Int)].take 5) = n at hvl HVV
    go_wp2_with fail
    refine HSM.out.mono ?_
    rintro e w5 ⟨rfl, f5⟩
    have HF5 := zh (HFR.out.trans f5)
    clear f5 y0 y1 y2 y3 y4 y5
    by_cases h0 : t = 0
    ·have d1 : ((t : Int) != 0) = false := by rw [h0]; rfl
     have d2 : ((t : Int) == 0) = true := by rw [h0]; rfl
     have HV : Hid (readP b = (n, 0)) := zh (by unfold readP; rw [zl ⟨H6.out, HALL.out, by rw [HSV.out]; have := HT.out; omega⟩, HVV.out])
     clear h0
     go_wp2_with fail
     exact zi (v := .tuple #[.int .i64 n, .int .i64 0]) (by simp [results, Tryz.results81, go_sem]) rfl ⟨by rw [HV.out], HF5.out⟩
    ·have d1 : ((t : Int) != 0) = true := by rw [bne_iff_ne]; omega
     have d2 : ((t : Int) == 0) = false := by rw [zC]; omega
     have HV : Hid (readP b = (0, 6)) := zh (readP_no (fun h => by have h1 := h.2.2; rw [HSV.out] at h1; have := HT.out; omega))
     clear h0
     go_wp2_with fail
     exact zi (v := .tuple #[.int .i64 0, .int .i64 6]) (by simp [results, Tryz.results81, go_sem]) rfl ⟨by rw [HV.out], HF5.out⟩
 ·have HV : Hid (readP b = (0, 6)) := zh (readP_no (fun h => h6 h.1))
  have d0 : ((S.size : Int) != 6) = true := by rw [bne_iff_ne]; omega
  have d1 : ¬ S.size = 6 := by omega
  clear hsz h6 hb
  go_in
  go_wp2_with fail
  exact zi (v := .tuple #[.int .i64 0, .int .i64 6]) (by simp [results, Tryz.results81, go_sem]) rfl ⟨by rw [HV.out], za _ _⟩
def qn (n : Nat) : Nat → Nat
 | 0 => n
 | j + 1 => qn n j / 31
def rn (n j : Nat) : Nat := qn n j % 31
theorem rn_le (n j : Nat) : rn n j ≤ 30 := by unfold rn; omega
theorem qn_le (n : Nat) : ∀ j, qn n j ≤ n
 | 0 => zf _
 | j + 1 => zp (Nat.div_le_self _ _) (qn_le n j)
def arr (n j : Nat) : List Value := [.int .i64 (if 4 < j then (rn n 4 : Int) else 0), .int .i64 (if 3 < j then (rn n 3 : Int) else 0), .int .i64 (if 2 < j then (rn n 2 : Int) else 0), .int .i64 (if 1 < j then (rn n 1 : Int) else 0), .int .i64 (if 0 < j then (rn n 0 : Int) else 0), .int .i64 0]
theorem arr_put (n : Nat) {j : Nat} (h : j < 5) : (arr n j).toArray.setIfInBounds (4 - j) (.int .i64 (rn n j : Int)) = (arr n (j + 1)).toArray := by
 have e : j = 0 ∨ j = 1 ∨ j = 2 ∨ j = 3 ∨ j = 4 := by omega
 rcases e with rfl | rfl | rfl | rfl | rfl <;> rfl
theorem arr_has (n : Nat) {j i : Nat} (h : i < 5) : ∃ u, (arr n j).toArray[i]? = some u := by
 have e : i = 0 ∨ i = 1 ∨ i = 2 ∨ i = 3 ∨ i = 4 := by omega
 rcases e with rfl | rfl | rfl | rfl | rfl <;> exact ⟨_, rfl⟩
def lastD (n : Nat) : Nat := (31 - sumV (rn n 4) (rn n 3) (rn n 2) (rn n 1) (rn n 0) 0 % 31) % 31
def digs (n : Nat) : List Nat := [rn n 4, rn n 3, rn n 2, rn n 1, rn n 0, lastD n]
def locOf (n : Nat) : List UInt8 := (digs n).map sign
theorem digs_le (n : Nat) : ∀ d ∈ digs n, d ≤ 30 := by
 intro d hd
 unfold digs at hd
 simp only [zU, List.not_mem_nil, or_false] at hd
 rcases hd with rfl | rfl | rfl | rfl | rfl | rfl
 ·exact rn_le _ _
 ·exact rn_le _ _
 ·exact rn_le _ _
 ·exact rn_le _ _
 ·exact rn_le _ _
 ·unfold lastD; omega
def OfPost (w : World) (b : List UInt8) (e : Ending) (w' : World) : Prop := e = .returned (.tuple #[.string (str b), .int .i64 0]) ∧ Fresh w w'
theorem of_any (w : World) (n : Nat) (hn : n < 28629151) : Calls Tryz.prog 83 #[.int .i64 (n : Int)] w fun e w' => OfPost w (locOf n) e w' := by
 have d0 : decide ((n : Int) < 0) = false := zb (by omega)
 have d1 : decide ((28629151 : Int) ≤ (n : Int)) = false := zb (by omega)
 have d2 : ¬ (28629151 : Int) ≤ (n : Int) := by omega
 obtain ⟨q, hq⟩ : ∃ q, w.heap.size = q := ⟨_, rfl⟩
 obtain ⟨W, hW⟩ : ∃ W, w.alloc (.cells #[.int .i64 0, .int .i64 0, .int .i64 0, .int .i64 0, .int .i64 0, .int .i64 0] 163) = W := ⟨_, rfl⟩
 have HF : Hid (Fresh w W) := zh (by rw [← hW]; exact (za _ w).alloc _)
 have HB : Hid (Blk W q 163 (arr n 0).toArray) := zh (by rw [← hW, ← hq]; exact Blk.new w _ _)
 have HQ := zh hq
 obtain ⟨i0, hi, hz0, hz1, hz2⟩ := info_parts on_info_u8
 go_in
 go_wp2_with fail
 try rw [hq]
 try rw [hW]
 clear hW hq
 go_loopg [0, 5] 5 (fun k v0 v5 wr => ∃ (j : Nat) (z : Int), j + k = 5 ∧ v5 = .int .i64 z ∧ z = 4 - (j : Int) ∧ v0 = .int .i64 (qn n j : Int) ∧ Blk wr q 163 (arr n j).toArray ∧ Fresh w wr)
 case atStart => exact ⟨0, 4, rfl, rfl, rfl, rfl, HB.out, HF.out⟩
 case round =>
  obtain ⟨j, z, hjk, rfl, hz, rfl, hb, hf⟩ := hrel
  have HBK := zh hb
  have HFR := zh hf
  have hql := qn_le n j
  by_cases hlt : j < 5
  ·obtain ⟨i, hi4⟩ : ∃ i : Nat, i = 4 - j := ⟨_, rfl⟩
   have hzi : z = (i : Int) := by omega
   subst hzi
   have hi0 : (0 : Int) ≤ (i : Int) := by omega
   have hi6 : (i : Int) < 6 := by omega
   have e0 : decide ((0 : Int) ≤ (i : Int)) = true := zc hi0
   obtain ⟨r, hr⟩ : ∃ r, r = rn n j := ⟨_, rfl⟩
   obtain ⟨m, hm⟩ : ∃ m, m = qn n (j + 1) := ⟨_, rfl⟩
   have s1 : ((qn n j : Nat) : Int).tmod 31 = (r : Int) := by rw [jB (by omega), hr]; rfl
   have s2 : ((qn n j : Nat) : Int).tdiv 31 = (m : Int) := by rw [Int.tdiv_eq_ediv_of_nonneg (by omega), hm]; rfl
   have hml : m ≤ n := by rw [hm]; exact qn_le n (j + 1)
   have w1 : IntKind.i64.wrap (m : Int) = (m : Int) := zm _ (by omega)
   have wz : IntKind.i64.wrap ((i : Int) - 1) = (i : Int) - 1 := zm _ (by omega)
   obtain ⟨u, hu⟩ := arr_has n (j := j) (i := i) (by omega)
   have y0 : wr.cell? ⟨q, i, none⟩ = some u := by rw [hb.cell i]; exact hu
   have z0 : wr.frozen? ⟨q, i, none⟩ = false := hb.frozen i
   obtain ⟨V, hV⟩ : ∃ V, wr.setCell ⟨q, i, none⟩ (.int .i64 (r : Int)) = V := ⟨_, rfl⟩
   have HBV : Hid (Blk V q 163 (arr n (j + 1)).toArray) := zh (by rw [← hV, ← arr_put n hlt, ← hi4, ← hr]; exact hb.set i _)
   have HFV : Hid (Fresh w V) := zh (by rw [← hV]; exact hf.setCell (p := ⟨q, i, none⟩) (fun h => by have := HQ.out; simp at h; omega) _)
   have HM := zh hm
   have HI4 := zh hi4
   have HJK := zh hjk
   generalize qn n j = x at s1 s2 hql ⊢
   clear hb hf hz hr hm hi4 hu hjk
   go_wp2_with fail
   go_roundg (gk - 1)
   case measure => have := HJK.out; omega
   case rel => exact ⟨j + 1, (i : Int) - 1, by have := HJK.out; omega, rfl, by have := HI4.out; omega, by rw [HM.out], HBV.out, HFV.out⟩
  ·have hj5 : j = 5 := by omega
   subst hj5
   have hzn : z = -1 := by omega
   subst hzn
   have y0 : wr.cell? ⟨q, 0, none⟩ = some (.int .i64 (rn n 4 : Int)) := hb.cell 0
   have b0 := rn_le n 0
   have b1 := rn_le n 1
   have b2 := rn_le n 2
   have b3 := rn_le n 3
   have b4 := rn_le n 4
   obtain ⟨s, hs⟩ : ∃ s, s = sumV (rn n 4) (rn n 3) (rn n 2) (rn n 1) (rn n 0) 0 := ⟨_, rfl⟩
   have HLD : Hid (lastD n = (31 - s % 31) % 31) := zh (by unfold lastD; rw [← hs])
   have HDG : Hid (digs n = [rn n 4, rn n 3, rn n 2, rn n 1, rn n 0, lastD n]) := zh rfl
   have HBA : Hid (Blk wr q 163 #[.int .i64 (rn n 4 : Int), .int .i64 (rn n 3 : Int), .int .i64 (rn n 2 : Int), .int .i64 (rn n 1 : Int), .int .i64 (rn n 0 : Int), .int .i64 0]) := zh hb
   have hsk : ∀ k, sumV (rn n 4) (rn n 3) (rn n 2) (rn n 1) (rn n 0) k = s + k := fun k => by rw [hs]; unfold sumV; omega
   have hsl : s ≤ 1000 := by rw [hs]; unfold sumV; omega
   have HSK := zh hsk
   clear hb hf hs y0 hsk HBK
   generalize rn n 4 = r4 at *
   generalize rn n 3 = r3 at *
   generalize rn n 2 = r2 at *
   generalize rn n 1 = r1 at *
   generalize rn n 0 = r0 at *
   have HIX : Hid (∀ k : Nat, k < 31 → ∀ w, (Instr.index 9 (.string ⟨#[65, 66, 67, 68, 69, 70, 71, 72, 74, 75, 76, 77, 78, 80, 81, 82, 84, 85, 86, 87, 88, 89, 90, 50, 51, 52, 53, 54, 55, 56, 57]⟩) (.int .i64 (k : Int))).run Tryz.prog w = .ok (.int .u8 ((sign k).toNat : Int)) w) := zh fun k h w => index_sign h w
   go_wp2_with fail
   go_loopg [] 32 (fun g wr => ∃ k : Nat, k + g = 32 ∧ (∀ m, m < k → (s + m) % 31 ≠ 0) ∧ Blk wr q 163 #[.int .i64 (r4 : Int), .int .i64 (r3 : Int), .int .i64 (r2 : Int), .int .i64 (r1 : Int), .int .i64 (r0 : Int), .int .i64 (k : Int)] ∧ Fresh w wr)
   case atStart => exact ⟨0, rfl, fun m h => by omega, HBA.out, HFR.out⟩
   case round =>
    obtain ⟨k, hkg, hno, hb, hf⟩ := hrel
    have hk31 : k ≤ 31 := by
     rcases zL 31 k with h | h
     ·exact absurd (by omega) (hno ((31 - s % 31) % 31) (by omega))
     ·exact h
    have HBK := zh hb
    have HF2 := zh hf
    have HNO := zh hno
    have HKG := zh hkg
    have y0 : wr.cell? ⟨q, 0, none⟩ = some (.int .i64 (r4 : Int)) := hb.cell 0
    have y1 : wr.cell? ⟨q, 1, none⟩ = some (.int .i64 (r3 : Int)) := hb.cell 1
    have y2 : wr.cell? ⟨q, 2, none⟩ = some (.int .i64 (r2 : Int)) := hb.cell 2
    have y3 : wr.cell? ⟨q, 3, none⟩ = some (.int .i64 (r1 : Int)) := hb.cell 3
    have y4 : wr.cell? ⟨q, 4, none⟩ = some (.int .i64 (r0 : Int)) := hb.cell 4
    have y5 : wr.cell? ⟨q, 5, none⟩ = some (.int .i64 (k : Int)) := hb.cell 5
    have HSM := zh (sum_any wr r4 r3 r2 r1 r0 k (by omega) (by omega) (by omega) (by omega) (by omega) (by omega))
    rw [HSK.out k] at HSM
    obtain ⟨sk, hsk⟩ : ∃ x, x = s + k := ⟨_, rfl⟩
    rw [← hsk] at HSM
    obtain ⟨t, ht⟩ : ∃ t, t = sk % 31 := ⟨_, rfl⟩
    have s1 : (sk : Int).tmod 31 = (t : Int) := by rw [jB (by omega), ht]; rfl
    have HT := zh ht
    have HSKK := zh hsk
    clear hb hf hno hkg hsk ht
    go_wp2_with fail
    refine HSM.out.mono ?_
    rintro e w5 ⟨rfl, f5⟩
    have HF5 := zh (HF2.out.trans f5)
    have b5 := HBK.out.frm f5 (fun f => f)
    have HB5 := zh b5
    have x5 : w5.cell? ⟨q, 5, none⟩ = some (.int .i64 (k : Int)) := b5.cell 5
    have z5 : w5.frozen? ⟨q, 5, none⟩ = false := b5.frozen 5
    clear f5 y0 y1 y2 y3 y4 y5 b5
    by_cases h0 : t = 0
    ·have d3 : ((t : Int) != 0) = false := by rw [h0]; rfl
     have d4 : ((t : Int) == 0) = true := by rw [h0]; rfl
     have HKL : Hid (k = lastD n) := zh (by
      rw [HLD.out]
      have h1 := HT.out
      have h2 := HSKK.out
      rcases zL ((31 - s % 31) % 31) k with h | h
      ·exact absurd (by omega) (HNO.out _ h)
      ·omega)
     obtain ⟨ds, hds⟩ : ∃ ds : List Nat, ds = [r4, r3, r2, r1, r0, k] := ⟨_, rfl⟩
     have HDS : Hid (digs n = ds) := zh (by rw [HDG.out, hds, HKL.out])
     have HBD : Hid (Blk w5 q 163 (ds.map fun d : Nat => Value.int .i64 (d : Int)).toArray) := zh (by rw [hds]; exact HB5.out)
     have HDL : Hid (∀ d ∈ ds, d ≤ 30) := zh (by rw [← HDS.out]; exact digs_le n)
     have HD6 : Hid (ds.length = 6) := zh (by rw [hds]; rfl)
     clear hds h0 x5 z5
     go_wp2_with fail
     go_loopg [6, 7] 7 (fun g v6 v7 wr => ∃ (i : Nat), i + g = 7 ∧ i ≤ 6 ∧ v7 = .int .i64 (i : Int) ∧ Sl wr w5.heap.size 5 1 v6 i (((ds.take i).map sign).map bv) ∧ Fresh w5 wr)
     case atStart => exact ⟨0, rfl, by omega, rfl, Sl.nil _ _ _ _, za _ _⟩
     case round =>
      obtain ⟨i, hig, hi6, rfl, hsl, hf⟩ := hrel
      have hi0 : (0 : Int) ≤ (i : Int) := by omega
      have HIG := zh hig
      have HX := zh hf
      obtain ⟨A6, c6, rfl, _⟩ := hsl.shape
      have HSL := zh hsl
      by_cases hlt : i < 6
      ·have hlti : (i : Int) < 6 := by omega
       have e0 : decide ((i : Int) < 6) = true := zc hlti
       have hil : i < ds.length := by rw [HD6.out]; exact hlt
       have hd30 := HDL.out _ (ze hil)
       have y0 : wr.cell? ⟨q, i, none⟩ = some (.int .i64 ((ds[i] : Nat) : Int)) := by
        rw [(HBD.out.frm hf (fun f => f)).cell i]
        simp [hil]
       have HTK : Hid ((ds.take (i + 1)).map sign = (ds.take i).map sign ++ [sign ds[i]]) := zh (by rw [zu hil, zn]; rfl)
       generalize ds[i] = d at y0 hd30 HTK
       have hx := HIX.out d (by omega)
       have hd0 : (0 : Int) ≤ (d : Int) := by omega
       have hd1 : (d : Int) < 31 := by omega
       obtain ⟨sd, hsd⟩ : ∃ x, x = sign d := ⟨_, rfl⟩
       rw [← hsd] at hx HTK
       have R := zh (qE wr (.int .u8 (sd.toNat : Int)) 5)
       have HSA := zh (HSL.out.alloc (.cells #[.int .u8 (sd.toNat : Int)] 5))
       have HXZ := zh hf.size
       clear hsl hf hig hsd
       go_wp2_with (at_builtin; refine jD _ rfl (.tmp 36) (.tmp 41) _ rfl w5.heap.size 5 i0 _ 1 1 Tryz.underlying39 hi hz0 hz1 hz2 rfl (by omega) _ i _ rfl HSA.out _ _ 1 _ _ rfl (by rfl) R.out (fun u hu => by simp at hu; subst hu; rfl) (by unfold maxLen; omega) (by omega) (by have := HXZ.out; simp; omega) ?_; intro v7 x7 hs7 hf7 ha7)
       have HS7 : Hid (Sl x7 w5.heap.size 5 1 v7 (i + 1) (((ds.take (i + 1)).map sign).map bv)) := zh (by rw [HTK.out, zn]; exact hs7)
       have HX7 : Hid (Fresh w5 x7) := zh ((HX.out.alloc _).trans' hf7 (fun k hk e => by have := (HSA.out.lt k e).1; omega))
       clear hs7 hf7 ha7
       go_wp2_with fail
       go_roundg (gk - 1)
       case measure => have := HIG.out; omega
       case rel => exact ⟨i + 1, by have := HIG.out; omega, by omega, by go_num, HS7.out, HX7.out⟩
      ·have hlti : ¬ (i : Int) < 6 := by omega
       have e0 : decide ((i : Int) < 6) = false := zb hlti
       obtain rfl : i = 6 := by omega
       have HLO : Hid ((ds.take 6).map sign = locOf n) := zh (by unfold locOf; rw [HDS.out, zD (by rw [HD6.out]; omega)])
       have HSR : Hid (Sl wr w5.heap.size 5 1 (.slice A6 6 c6) 6 ((locOf n).map bv)) := zh (by rw [← HLO.out]; exact hsl)
       have hcv : (convert 39 9 (.slice A6 6 c6)).run Tryz.prog wr = .ok (.string (str (locOf n))) wr := conv_u c6 HSR.out.rd rfl
       clear hsl hf hig
       go_wp2_with fail
       exact zi (v := .tuple #[.string (str (locOf n)), .int .i64 0]) (by simp [results, Tryz.results83, go_sem]) rfl ⟨rfl, HF5.out.trans HX.out⟩
    ·have d3 : ((t : Int) != 0) = true := by rw [bne_iff_ne]; omega
     have d4 : ((t : Int) == 0) = false := by rw [zC]; omega
     have HNN : Hid (∀ m, m < k + 1 → (s + m) % 31 ≠ 0) := zh fun m hm => by
      rcases zL m k with h | h
      ·exact HNO.out m h
      ·obtain rfl : m = k := by omega
       have h1 := HT.out
       have h2 := HSKK.out
       omega
     have wk : IntKind.i64.wrap ((k : Int) + 1) = (k : Int) + 1 := zm _ (by omega)
     obtain ⟨V, hV⟩ : ∃ V, w5.setCell ⟨q, 5, none⟩ (.int .i64 ((k : Int) + 1)) = V := ⟨_, rfl⟩
     have HBV : Hid (Blk V q 163 #[.int .i64 (r4 : Int), .int .i64 (r3 : Int), .int .i64 (r2 : Int), .int .i64 (r1 : Int), .int .i64 (r0 : Int), .int .i64 ((k : Int) + 1)]) := zh (by rw [← hV]; exact HB5.out.set 5 _)
     have HFV : Hid (Fresh w V) := zh (by rw [← hV]; exact HF5.out.setCell (p := ⟨q, 5, none⟩) (fun h => by have := HQ.out; simp at h; omega) _)
     have hk30 : k ≤ 30 := by
      rcases zL 30 k with h | h
      ·exact absurd (by omega) (HNO.out ((31 - s % 31) % 31) (by omega))
      ·exact h
     clear h0
     go_wp2_with fail
     go_roundg (gk - 1)
     case measure => have := HKG.out; omega
     case rel => exact ⟨k + 1, by have := HKG.out; omega, HNN.out, HBV.out, HFV.out⟩
theorem run_quo {P : Program} {w : World} {n a q : Int} (ha : ¬ a = 0) (h : IntKind.i64.wrap (n.tdiv a) = q) : (Op.intDiv .quo .i64 n a).run P w = .ok (.int .i64 q) w := by
 unfold Op.intDiv
 simp [ha, h, go_sem]
def grp : List Int → Int → Nat
 | [], _ => 0
 | g :: r, at' => if g ≤ at' then grp r (at' - g) + 1 else 0
theorem grp_step {gs : List Int} {k : Nat} (h : k < gs.length) (at' : Int) : grp (gs.drop k) at' = if gs[k] ≤ at' then grp (gs.drop (k + 1)) (at' - gs[k]) + 1 else 0 := by
 rw [zK h, grp]
def groupL (a : Nat) (gs : List Int) (n : Nat) : Nat := n / a * gs.length + grp gs ((n % a : Nat) : Int)
theorem group_any (w : World) (r : Int) (A : Option Addr) (c : Nat) (gs : List Int) (hA : Rd w w.heap.size A (ivs gs)) (hri : jU r gs = true) (n a : Nat) (ha : gs.sum = (a : Int)) (hn : n ≤ 600) :
 Calls Tryz.prog 132 #[.agg #[.int .i64 r, .slice A gs.length c], .int .i64 (n : Int)] w fun e w' => e = .returned (.int .i64 (groupL a gs n : Int)) ∧ Fresh w w' := by
 obtain ⟨⟨q1, q2⟩, ⟨l1, l4⟩, hg, q3⟩ := rightL_of hri
 have hs : small gs := ⟨by omega, fun g hx => by have := hg g hx; omega⟩
 have hsum : ∀ l : List Int, (∀ g ∈ l, 1 ≤ g ∧ g ≤ 10) → (l.length : Int) ≤ l.sum := by
  intro l
  induction l with
  | nil => intro _; simp
  | cons x t ih => intro h; have h1 := h x (by simp); have h2 := ih (fun y hy => h y (List.mem_cons_of_mem _ hy)); rw [List.sum_cons, zG]; omega
 have ha1 : 1 ≤ a := by have := hsum gs hg; omega
 have ha10 : a ≤ 10 := by omega
 obtain ⟨q, hq⟩ : ∃ x, x = n / a := ⟨_, rfl⟩
 obtain ⟨m, hm⟩ : ∃ x, x = n % a := ⟨_, rfl⟩
 have hma : m < a := by rw [hm]; exact Nat.mod_lt n ha1
 have hq6 : q ≤ 600 := by rw [hq]; exact zp (Nat.div_le_self _ _) hn
 have HGL : Hid (groupL a gs n = q * gs.length + grp gs (m : Int)) := zh (by unfold groupL; rw [← hq, ← hm])
 have s1 : (n : Int).tdiv (a : Int) = (q : Int) := by rw [Int.tdiv_eq_ediv_of_nonneg (by omega), hq]; rfl
 have s2 : (n : Int).tmod (a : Int) = (m : Int) := by rw [jB (by omega), hm]; rfl
 have w1 : IntKind.i64.wrap (q : Int) = (q : Int) := zm _ (by omega)
 have z1 : ((a : Int) == 0) = false := by rw [zC]; omega
 have z2 : ¬ ((a : Int) = 0) := by omega
 obtain ⟨W, hW⟩ : ∃ W, w.alloc (.cells #[.int .i64 r, .slice A gs.length c] 92) = W := ⟨_, rfl⟩
 have hFW : Fresh w W := by rw [← hW]; exact (za _ w).alloc _
 have hBX : Blk W w.heap.size 92 #[.int .i64 r, .slice A gs.length c] := by rw [← hW]; exact Blk.new w _ _
 have HF := zh hFW
 have BX := zh hBX
 have y0 : W.cell? ⟨w.heap.size, 0, none⟩ = some (.int .i64 r) := hBX.cell 0
 have y1 : W.cell? ⟨w.heap.size, 1, none⟩ = some (.slice A gs.length c) := hBX.cell 1
 have hA2 := (hA.fresh (zf _) hFW).more hFW.size
 have HA := zh hA2
 have HAC : Hid (∀ w', Fresh W w' → Calls Tryz.prog 116 #[.agg #[.int .i64 r, .slice A gs.length c]] w' fun e w'' => e = .returned (.int .i64 (a : Int)) ∧ Fresh w' w'') := zh fun w' F => by rw [← ha]; exact across_any w' r A c gs ((hA2.fresh (zf _) F).more F.size) hs
 have HG := zh hg
 have HSU := zh hsum
 have HSA := zh ha
 obtain ⟨gn, hgn⟩ : ∃ x, x = gs.length := ⟨_, rfl⟩
 rw [← hgn] at y1 HAC hW BX l1 l4 HGL ⊢
 have HGN := zh hgn
 clear hFW hBX hA hA2 hs hq hm hri hg hsum ha hgn
 go_in
 go_wp2_with fail
 try rw [hW]
 clear hW
 refine (HAC.out W (za _ _)).mono ?_
 rintro e x1 ⟨rfl, f1⟩
 have HF1 := zh f1
 have k0 : x1.cell? ⟨w.heap.size, 0, none⟩ = some (.int .i64 r) := (BX.out.frm f1 (fun f => f)).cell 0
 have k1 : x1.cell? ⟨w.heap.size, 1, none⟩ = some (.slice A gn c) := (BX.out.frm f1 (fun f => f)).cell 1
 clear f1 y0 y1
 go_wp2_with fail
 go_loopw [5, 6] (fun v5 v6 wr => ∃ (k : Nat) (t : Int), k < gn ∧ v5 = .int .i64 t ∧ v6 = .int .i64 (k : Int) ∧ 0 ≤ t ∧ t < (gs.drop k).sum ∧ grp gs (m : Int) = k + grp (gs.drop k) t ∧ wr = x1) (fun _ v6 _ => gn - (intOf v6).toNat)
 case atStart => exact ⟨0, m, by omega, rfl, rfl, by omega, by rw [List.drop_zero, HSA.out]; omega, by simp, rfl⟩
 case round =>
  obtain ⟨k, t, hk, rfl, rfl, ht0, hts, hgr, rfl⟩ := hrel
  have hk0 : (0 : Int) ≤ (k : Int) := by omega
  have hki : (k : Int) < (gn : Int) := by omega
  have hkg : k < gs.length := by rw [← HGN.out]; exact hk
  obtain ⟨b, o, rfl, _, hc⟩ := (HA.out.fresh (zf _) HF1.out).at_ (k := k) (by simpa using hkg)
  rw [List.getElem_map] at hc
  have hx := HG.out _ (ze hkg)
  rw [zK hkg, List.sum_cons] at hts
  rw [grp_step hkg] at hgr
  have hs10 : (gs.drop (k + 1)).sum ≤ 10 * (gs.length : Int) := by
   have := sum_small (gs.drop (k + 1)) (fun g hgm => by have := HG.out g (List.mem_of_mem_drop hgm); omega)
   have h2 : ∀ l : List Int, (∀ g ∈ l, 1 ≤ g ∧ g ≤ 10) → l.sum ≤ 10 * (l.length : Int) := by
    intro l
    induction l with
    | nil => intro _; simp
    | cons x t ih => intro h; have h1 := h x (by simp); have h2 := ih (fun y hy => h y (List.mem_cons_of_mem _ hy)); rw [List.sum_cons, zG]; omega
   have h3 := h2 (gs.drop (k + 1)) (fun g hgm => HG.out g (List.mem_of_mem_drop hgm))
   have h4 : (gs.drop (k + 1)).length ≤ gs.length := by rw [zN]; omega
   omega
  have hsz : ∀ h : gn ≤ k + 1, (gs.drop (k + 1)).sum = 0 := fun h => by rw [List.drop_eq_nil_of_le (by have := HGN.out; omega)]; rfl
  have HGR := zh hgr
  have HTS := zh hts
  have HZ := zh hsz
  generalize gs[k] = x at hc hx HGR HTS
  have htm : t ≤ 100 := by have := HTS.out; have := HGN.out; omega
  clear hgr hts hsz hs10
  by_cases hxt : x ≤ t
  ·have d0 : decide (x ≤ t) = true := zc hxt
   have hw : IntKind.i64.wrap (t - x) = t - x := zm _ (by omega)
   have hk2 : k + 1 < gn := by
    rcases zL (k + 1) gn with h | h
    ·exact h
    ·have := HZ.out h; have := HTS.out; omega
   have HN : Hid (grp gs (m : Int) = (k + 1 : Nat) + grp (gs.drop (k + 1)) (t - x)) := zh (by have h := HGR.out; rw [zl hxt] at h; rw [h]; omega)
   have HN2 : Hid (t - x < (gs.drop (k + 1)).sum) := zh (by have := HTS.out; omega)
   go_wp2_with fail
   go_roundw
   case rel => exact ⟨k + 1, t - x, hk2, rfl, by go_num, by omega, HN2.out, HN.out, by first | rfl | trivial⟩
   case measure => simp [intOf]; omega
  ·have d0 : decide (x ≤ t) = false := zb hxt
   have HV : Hid ((groupL a gs n : Int) = (q : Int) * (gn : Int) + (k : Int)) := zh (by have h := HGR.out; rw [zk hxt] at h; rw [HGL.out, h]; push_cast; omega)
   have hqg : (q : Int) * (gn : Int) ≤ 2400 := by
    have := Int.mul_le_mul (show (q : Int) ≤ 600 by omega) (show (gn : Int) ≤ 4 by omega) (by omega) (by omega)
    omega
   have hqg0 : 0 ≤ (q : Int) * (gn : Int) := Int.mul_nonneg (by omega) (by omega)
   have w2 : IntKind.i64.wrap ((q : Int) * (gn : Int)) = (q : Int) * (gn : Int) := zm _ (by omega)
   have w3 : IntKind.i64.wrap ((q : Int) * (gn : Int) + (k : Int)) = (q : Int) * (gn : Int) + (k : Int) := zm _ (by omega)
   have HAC2 := zh (HAC.out wr.drew (HF1.out.drew))
   have SS : Hid (wr.drew.cell? ⟨w.heap.size, 0, none⟩ = some (.int .i64 r) ∧ wr.drew.cell? ⟨w.heap.size, 1, none⟩ = some (.slice (some ⟨b, o, none⟩) gn c)) := zh ⟨k0, k1⟩
   have HB1 : Hid (∀ w', Fresh wr.drew w' → w'.cell? ⟨w.heap.size, 0, none⟩ = some (.int .i64 r) ∧ w'.cell? ⟨w.heap.size, 1, none⟩ = some (.slice (some ⟨b, o, none⟩) gn c)) := zh fun w' F =>
    ⟨(F.cell (World.block_lt_of_cell? _ _ SS.out.1) (fun f => f)).trans SS.out.1, (F.cell (World.block_lt_of_cell? _ _ SS.out.2) (fun f => f)).trans SS.out.2⟩
   have hqd : ∀ w, (Op.intDiv .quo .i64 (n : Int) (a : Int)).run Tryz.prog w = .ok (.int .i64 (q : Int)) w := fun w => run_quo z2 (by rw [s1]; exact w1)
   go_wp2_with fail
   have j0 := SS.out.1
   have j1 := SS.out.2
   go_region_with (go_at_call 116; refine HAC2.out.mono ?_; rintro e w' ⟨rfl, f2⟩; have HF2 := zh f2; obtain ⟨j0', j1'⟩ := HB1.out w' f2; clear f2)
   all_goals first | (go_wp2_with fail; go_ret; exact ⟨ret_z HV.out.symm, (HF.out.trans HF1.out.drew).trans HF2.out⟩) | trace_state
theorem mem_take_no {zs : List Int} {i : Nat} {n : Int} (h : i < zs.length) (hn : n ∉ zs.take i) (hx : zs[i] ≠ n) : n ∉ zs.take (i + 1) := by
 rw [zu h]
 intro hm
 rcases zy.1 hm with hm | hm
 ·exact hn hm
 ·rw [zO] at hm
  exact hx hm.symm
theorem refHas_any (w : World) (A : Option Addr) (cap : Nat) (zs : List Int) (n : Int) (hA : Rd w w.heap.size A (ivs zs)) (hl : zs.length ≤ 100000) :
 Calls Tryz.prog 126 #[.slice A zs.length cap, .int .i64 n] w fun e w' => e = .returned (.bool (decide (n ∈ zs))) ∧ w' = w := by
 have HA := zh hA
 clear hA
 go_in
 go_wp2_with fail
 go_loop [5] (fun v5 => ∃ (i : Nat), i ≤ zs.length ∧ v5 = .int .i64 (i : Int) ∧ n ∉ zs.take i) (fun v5 => zs.length - (intOf v5).toNat)
 case atStart => exact ⟨0, by omega, rfl, by simp⟩
 case round =>
  obtain ⟨i, hi, rfl, hno⟩ := hrel
  have hi0 : (0 : Int) ≤ (i : Int) := by omega
  have HNO := zh hno
  clear hno
  by_cases hlt : i < zs.length
  ·have hlti : (i : Int) < (zs.length : Int) := by omega
   obtain ⟨b, o, rfl, _, hc⟩ := HA.out.at_ (k := i) (by simpa using hlt)
   rw [List.getElem_map] at hc
   have HM := zh (ze hlt)
   have HST := zh (mem_take_no hlt HNO.out)
   generalize zs[i] = x at hc HM HST
   by_cases hx : x = n
   ·have HE := zh hx
    subst hx
    go_wp2_with fail
    go_ret
    exact ⟨ret_b (zc HM.out).symm, rfl⟩
   ·go_wp2_with fail
    go_round
    case rel => exact ⟨i + 1, by omega, by go_num, HST.out hx⟩
    case measure => simp [intOf]; omega
  ·have hlti : ¬ (i : Int) < (zs.length : Int) := by omega
   go_wp2_with fail
   go_ret
   exact ⟨ret_b (zb (by have := HNO.out; rwa [zD (by omega)] at this)).symm, rfl⟩
theorem info_i64 : (Tryz.prog.info? 3).map (fun i => (i.zero, i.size, i.bytes)) = some (some (.int .i64 0), 1, 8) := by kernel_rfl
def findF (a : Nat) (b : List UInt8) : Nat → Nat → Int × Int
 | 0, _ => (0, 2)
 | k + 1, i => if nameOf a i = b then ((i : Int), 0) else findF a b k (i + 1)
def FindPost (w : World) (v : Int × Int) (e : Ending) (w' : World) : Prop := e = .returned (.tuple #[.int .i64 v.1, .int .i64 v.2]) ∧ Fresh w w'
theorem find_any (w : World) (r : Int) (A : Option Addr) (c : Nat) (gs : List Int) (hA : Rd w w.heap.size A (ivs gs)) (hri : jU r gs = true) (a ct : Nat) (ha : gs.sum = (a : Int)) (hct : qJ r gs = (ct : Int)) (b : List UInt8) :
 Calls Tryz.prog 125 #[.agg #[.int .i64 r, .slice A gs.length c], .string (str b)] w fun e w' => FindPost w (findF a b ct 0) e w' := by
 obtain ⟨⟨q1, q2⟩, ⟨l1, l4⟩, hg, q3⟩ := rightL_of hri
 have hs : small gs := ⟨by omega, fun g hx => by have := hg g hx; omega⟩
 have hc6 : ct ≤ 600 := by
  have h1 : qJ r gs = r * gs.sum := by unfold qJ; rw [zl hri]
  have h2 := Int.mul_le_mul q2 q3 (sum_small gs hs.2).1 (by omega)
  omega
 obtain ⟨W, hW⟩ : ∃ W, w.alloc (.cells #[.int .i64 r, .slice A gs.length c] 92) = W := ⟨_, rfl⟩
 have hFW : Fresh w W := by rw [← hW]; exact (za _ w).alloc _
 have hBX : Blk W w.heap.size 92 #[.int .i64 r, .slice A gs.length c] := by rw [← hW]; exact Blk.new w _ _
 have HF := zh hFW
 have BX := zh hBX
 have y0 : W.cell? ⟨w.heap.size, 0, none⟩ = some (.int .i64 r) := hBX.cell 0
 have y1 : W.cell? ⟨w.heap.size, 1, none⟩ = some (.slice A gs.length c) := hBX.cell 1
 have hA2 := (hA.fresh (zf _) hFW).more hFW.size
 have HA := zh hA2
 have HS := zh hs
 have HRI : Hid (Calls Tryz.prog 118 #[.agg #[.int .i64 r, .slice A gs.length c]] W fun e w' => e = .returned (.bool true) ∧ Fresh W w') := zh (by rw [← hri]; exact rightL_any W r A c gs hA2 hs)
 have HCO : Hid (∀ w', Fresh W w' → Calls Tryz.prog 115 #[.agg #[.int .i64 r, .slice A gs.length c]] w' fun e w'' => e = .returned (.int .i64 (ct : Int)) ∧ Fresh w' w'') := zh fun w' F => by rw [← hct]; exact countL_any w' r A c gs ((hA2.fresh (zf _) F).more F.size) hs
 have HLA : Hid (∀ w' (i : Nat), Fresh W w' → i < ct → Calls Tryz.prog 101 #[.agg #[.int .i64 r, .slice A gs.length c], .int .i64 (i : Int)] w' fun e w'' => LabelPost w' (nameOf a i) e w'') := zh fun w' i F hi => label_yes w' r A c gs ((hA2.fresh (zf _) F).more F.size) hs i a ha (by rw [hct]; omega)
 have HCC : Hid (∀ w', Fresh W w' → w'.cell? ⟨w.heap.size, 0, none⟩ = some (.int .i64 r) ∧ w'.cell? ⟨w.heap.size, 1, none⟩ = some (.slice A gs.length c)) := zh fun w' F => ⟨(hBX.frm F (fun f => f)).cell 0, (hBX.frm F (fun f => f)).cell 1⟩
 obtain ⟨gn, hgn⟩ : ∃ x, x = gs.length := ⟨_, rfl⟩
 rw [← hgn] at y1 HRI HCO HLA HCC hW ⊢
 clear hFW hBX hA hA2 hs hri hg ha hct hgn BX q3 l1 l4 q1 q2
 go_in
 go_wp2_with fail
 try rw [hW]
 clear hW
 refine HRI.out.mono ?_
 rintro e x1 ⟨rfl, f1⟩
 have HF1 := zh f1
 clear f1 y0 y1
 go_wp2_with fail
 go_loopw [7] (fun v7 wr => ∃ i : Nat, i ≤ ct ∧ v7 = .int .i64 (i : Int) ∧ findF a b ct 0 = findF a b (ct - i) i ∧ Fresh W wr) (fun v7 _ => ct - (intOf v7).toNat)
 case atStart => exact ⟨0, by omega, rfl, rfl, HF1.out⟩
 case round =>
  obtain ⟨i, hi, rfl, hfd, hf⟩ := hrel
  have hi0 : (0 : Int) ≤ (i : Int) := by omega
  have HFD := zh hfd
  have HFR := zh hf
  obtain ⟨k0, k1⟩ := HCC.out wr hf
  have HCT := zh (HCO.out wr hf)
  clear hfd hf
  go_wp2_with fail
  refine HCT.out.mono ?_
  rintro e x2 ⟨rfl, f2⟩
  have HF2 := zh (HFR.out.trans f2)
  obtain ⟨k0, k1⟩ := HCC.out x2 HF2.out
  clear f2
  by_cases hlt : i < ct
  ·have hlti : (i : Int) < (ct : Int) := by omega
   have HL := zh (HLA.out x2 i HF2.out hlt)
   have HST : Hid (findF a b ct 0 = if nameOf a i = b then ((i : Int), 0) else findF a b (ct - (i + 1)) (i + 1)) := zh (by rw [HFD.out, show ct - i = (ct - (i + 1)) + 1 by omega, findF])
   obtain ⟨nm, hnm⟩ : ∃ x, x = nameOf a i := ⟨_, rfl⟩
   rw [← hnm] at HL HST
   have HNM := zh hnm
   clear hnm HCT
   go_wp2_with fail
   refine HL.out.mono ?_
   rintro e x3 h3
   obtain ⟨rfl, f3⟩ := h3
   have HF3 := zh (HF2.out.trans f3)
   clear f3 HL k0 k1
   by_cases hb : nm = b
   ·have hq : ((str nm).toList == (str b).toList) = true := by rw [hb]; simp
    have HV : Hid (findF a b ct 0 = ((i : Int), 0)) := zh (by rw [HST.out, zl hb])
    clear hb
    go_wp2_with fail
    exact zi (v := .tuple #[.int .i64 (i : Int), .int .i64 0]) (by simp [results, Tryz.results125, go_sem]) rfl ⟨by rw [HV.out], HF.out.trans HF3.out⟩
   ·have hq : ((str nm).toList == (str b).toList) = false := by rw [str_toList, str_toList, zC]; exact hb
    have HV : Hid (findF a b ct 0 = findF a b (ct - (i + 1)) (i + 1)) := zh (by rw [HST.out, zk hb])
    clear hb
    go_wp2_with fail
    go_roundw
    case rel => exact ⟨i + 1, by omega, by go_num, HV.out, HF3.out⟩
    case measure => simp [intOf]; omega
  ·have hlti : ¬ (i : Int) < (ct : Int) := by omega
   have HV : Hid (findF a b ct 0 = (0, 2)) := zh (by rw [HFD.out, show ct - i = 0 by omega]; rfl)
   go_wp2_with fail
   exact zi (v := .tuple #[.int .i64 0, .int .i64 2]) (by simp [results, Tryz.results125, go_sem]) rfl ⟨by rw [HV.out], HF.out.trans HF2.out⟩
theorem flat_len4 {α : Type} (f : α → List Value) (hf : ∀ a, (f a).length = 4) (l : List α) : (l.flatMap f).length = l.length * 4 := by
 induction l with
 | nil => rfl
 | cons x r ih => rw [zq, zg, ih, hf, zG]; omega
structure Hd where
 ow : Int
 cl : Int
 mn : Int
 A : Option Addr
 c : Nat
 st : List Int
def hcel (h : Hd) : List Value := [.int .i64 h.ow, .int .i64 h.cl, .int .i64 h.mn, .slice h.A h.st.length h.c]
theorem hcel_len (l : List Hd) : (l.flatMap hcel).length = l.length * 4 := flat_len4 hcel (fun _ => rfl) l
theorem hcel_get : ∀ (l : List Hd) (i : Nat) (h : i < l.length) (j : Nat), j < 4 → (l.flatMap hcel)[i * 4 + j]? = (hcel l[i])[j]?
 | x :: l, 0, _, j, hj => by
  rw [zq, Nat.zero_mul, Nat.zero_add, List.getElem?_append_left (by exact hj)]
  rfl
 | x :: l, i + 1, h, j, hj => by
  rw [zq, List.getElem?_append_right (by show 4 ≤ _; omega), show (hcel x).length = 4 from rfl, show (i + 1) * 4 + j - 4 = i * 4 + j by omega]
  exact hcel_get l i (by simpa using h) j hj
def FourH (w : World) (b o : Nat) (e : Hd) : Prop :=
 w.cell? ⟨b, o, none⟩ = some (.int .i64 e.ow) ∧ w.cell? ⟨b, o + 1, none⟩ = some (.int .i64 e.cl) ∧ w.cell? ⟨b, o + 2, none⟩ = some (.int .i64 e.mn) ∧ w.cell? ⟨b, o + 3, none⟩ = some (.slice e.A e.st.length e.c)
theorem hold_at {w : World} {B : Nat} {A : Option Addr} {l : List Hd} (h : Rd w B A (l.flatMap hcel)) {i : Nat} (hi : i < l.length) :
 ∃ b o, A = some ⟨b, o, none⟩ ∧ b < B ∧ FourH w b (o + i * 4) l[i] := by
 have hne : l.flatMap hcel ≠ [] := fun e => by
  have := hcel_len l
  rw [e] at this
  simp at this
  omega
 obtain ⟨b, o, hA, hb, hc⟩ := h hne
 have g := fun j (hj : j < 4) => hcel_get l i hi j hj
 refine ⟨b, o, hA, hb, ?_, ?_, ?_, ?_⟩
 ·exact hc _ _ (g 0 (by omega))
 ·rw [Nat.add_assoc]; exact hc _ _ (g 1 (by omega))
 ·rw [Nat.add_assoc]; exact hc _ _ (g 2 (by omega))
 ·rw [Nat.add_assoc]; exact hc _ _ (g 3 (by omega))
structure FlM where
 num : Int
 rows : Int
 GA : Option Addr
 gc : Nat
 gs : List Int
 LA : Option Addr
 lc : Nat
 lims : List Int
 HA : Option Addr
 hc : Nat
 hs : List Hd
def fcel (m : FlM) : Array Value := #[.int .i64 m.num, .int .i64 m.rows, .slice m.GA m.gs.length m.gc, .slice m.LA m.lims.length m.lc, .slice m.HA m.hs.length m.hc]
structure FlAt (w : World) (B f : Nat) (m : FlM) : Prop where
 blk : Blk w f 152 (fcel m)
 gsl : Sl w B 3 1 (.slice m.GA m.gs.length m.gc) m.gs.length (ivs m.gs)
 lsl : Sl w B 3 1 (.slice m.LA m.lims.length m.lc) m.lims.length (ivs m.lims)
 hsl : Sl w B 167 4 (.slice m.HA m.hs.length m.hc) m.hs.length (m.hs.flatMap hcel)
 ssl : ∀ h ∈ m.hs, Sl w B 3 1 (.slice h.A h.st.length h.c) h.st.length (ivs h.st)
theorem FlAt.fresh {w w' : World} {B f : Nat} {m : FlM} (h : FlAt w B f m) (F : Fresh w w') : FlAt w' B f m :=
 ⟨h.blk.frm F (fun f => f), h.gsl.fresh F, h.lsl.fresh F, h.hsl.fresh F, fun x hx => (h.ssl x hx).fresh F⟩
def placeF (ow : Int) : List Hd → Nat → Int
 | [], _ => -1
 | h :: r, i => if h.ow = ow then (i : Int) else placeF ow r (i + 1)
theorem placeF_step {hs : List Hd} {i : Nat} (h : i < hs.length) (ow : Int) : placeF ow (hs.drop i) i = if hs[i].ow = ow then (i : Int) else placeF ow (hs.drop (i + 1)) (i + 1) := by
 rw [zK h, placeF]
theorem place15_any (w : World) (B f : Nat) (m : FlM) (ow : Int) (h : FlAt w B f m) (hl : m.hs.length ≤ 1000) :
 Calls Tryz.prog 100 #[.pointer (some ⟨f, 0, none⟩), .int .i64 ow] w fun e w' => e = .returned (.int .i64 (placeF ow m.hs 0)) ∧ w' = w := by
 have y4 : w.cell? ⟨f, 4, none⟩ = some (.slice m.HA m.hs.length m.hc) := h.blk.cell 4
 have HR := zh h.hsl.rd
 obtain ⟨hs, hhs⟩ : ∃ x, x = m.hs := ⟨_, rfl⟩
 rw [← hhs] at y4 HR hl ⊢
 generalize m.HA = HA at y4 HR
 generalize m.hc = c at y4
 clear h hhs
 go_in
 go_wp2_with fail
 go_loopw [5] (fun v5 wr => ∃ i : Nat, i ≤ hs.length ∧ v5 = .int .i64 (i : Int) ∧ placeF ow hs 0 = placeF ow (hs.drop i) i ∧ wr = w) (fun v5 _ => hs.length - (intOf v5).toNat)
 case atStart => exact ⟨0, by omega, rfl, rfl, rfl⟩
 case round =>
  obtain ⟨i, hi, rfl, hp, rfl⟩ := hrel
  have hi0 : (0 : Int) ≤ (i : Int) := by omega
  have HP := zh hp
  clear hp
  by_cases hlt : i < hs.length
  ·have hlti : (i : Int) < (hs.length : Int) := by omega
   obtain ⟨b, o, rfl, _, c0, _, _, _⟩ := hold_at HR.out hlt
   have HST : Hid (placeF ow hs 0 = if hs[i].ow = ow then (i : Int) else placeF ow (hs.drop (i + 1)) (i + 1)) := zh (by rw [HP.out, placeF_step hlt])
   generalize hs[i].ow = x at c0 HST
   by_cases hx : x = ow
   ·have d1 : (x == ow) = true := by rw [hx]; simp
    have HV : Hid (placeF ow hs 0 = (i : Int)) := zh (by rw [HST.out, zl hx])
    clear hx
    go_wp2_with fail
    go_ret
    exact ⟨ret_z HV.out.symm, rfl⟩
   ·have d1 : (x == ow) = false := by rw [zC]; exact hx
    have HV : Hid (placeF ow hs 0 = placeF ow (hs.drop (i + 1)) (i + 1)) := zh (by rw [HST.out, zk hx])
    clear hx
    go_wp2_with fail
    go_roundw
    case rel => exact ⟨i + 1, by omega, by go_num, HV.out, by first | rfl | trivial⟩
    case measure => simp [intOf]; omega
  ·have hlti : ¬ (i : Int) < (hs.length : Int) := by omega
   have HV : Hid (placeF ow hs 0 = -1) := zh (by rw [HP.out, List.drop_eq_nil_of_le (by omega)]; rfl)
   go_wp2_with fail
   go_ret
   exact ⟨ret_z HV.out.symm, rfl⟩
def takenF (hs : List Hd) : List Int := hs.flatMap (·.st)
theorem takenF_step {hs : List Hd} {i : Nat} (h : i < hs.length) : takenF (hs.take (i + 1)) = takenF (hs.take i) ++ hs[i].st := by
 unfold takenF
 rw [zu h, zV]
 simp
theorem ivs_one (l : List Int) : ∀ u ∈ ivs l, u.oneCell' = true := fun u hu => by
 obtain ⟨x, _, rfl⟩ := zQ.1 hu
 rfl
theorem ivs_app (a b : List Int) : ivs (a ++ b) = ivs a ++ ivs b := zn
def OwnL (w : World) (l : List Int) (e : Ending) (w' : World) : Prop := ∃ v, e = .returned v ∧ Sl w' w.heap.size 3 1 v l.length (ivs l) ∧ Fresh w w'
theorem taken_any (w : World) (B f : Nat) (m : FlM) (h : FlAt w B f m) (hl : m.hs.length ≤ 1000) (ht : (takenF m.hs).length ≤ 100000) :
 Calls Tryz.prog 127 #[.pointer (some ⟨f, 0, none⟩)] w fun e w' => OwnL w (takenF m.hs) e w' := by
 obtain ⟨i0, hi, hz0, hz1, hz2⟩ := info_parts info_i64
 have HFA := zh h
 obtain ⟨hs, hhs⟩ : ∃ x, x = m.hs := ⟨_, rfl⟩
 have HY : Hid (∀ w', Fresh w w' → w'.cell? ⟨f, 4, none⟩ = some (.slice m.HA hs.length m.hc)) := zh fun w' F => by rw [hhs]; exact (h.fresh F).blk.cell 4
 have HR : Hid (∀ w', Fresh w w' → Rd w' w'.heap.size m.HA (hs.flatMap hcel)) := zh fun w' F => by rw [hhs]; exact (h.fresh F).hsl.rd
 have HSS : Hid (∀ w', Fresh w w' → ∀ x ∈ hs, Rd w' w'.heap.size x.A (ivs x.st)) := zh fun w' F x hx => ((h.fresh F).ssl x (by rw [← hhs]; exact hx)).rd
 rw [← hhs] at hl ht ⊢
 have HTO := zh ht
 generalize m.HA = HA at HY HR
 generalize m.hc = c at HY
 clear h hhs HFA ht
 go_in
 go_wp2_with fail
 go_loopw [3, 4] (fun v3 v4 wr => ∃ (i : Nat) (l : List Int), i ≤ hs.length ∧ v4 = .int .i64 (i : Int) ∧ l = takenF (hs.take i) ∧ Sl wr w.heap.size 3 1 v3 l.length (ivs l) ∧ Fresh w wr) (fun _ v4 _ => hs.length - (intOf v4).toNat)
 case atStart => exact ⟨0, [], by omega, rfl, rfl, Sl.nil _ _ _ _, za _ _⟩
 case round =>
  obtain ⟨i, l, hil, rfl, hl2, hsl, hf⟩ := hrel
  have hi0 : (0 : Int) ≤ (i : Int) := by omega
  have y4 := HY.out wr hf
  have HF := zh hf
  have HL := zh hl2
  obtain ⟨A3, c3, rfl, hle3, hm3, _⟩ := hsl.shape
  have HSL := zh hsl
  by_cases hlt : i < hs.length
  ·have hlti : (i : Int) < (hs.length : Int) := by omega
   obtain ⟨b, o, hA, _, _, _, _, c0⟩ := hold_at (HR.out wr hf) hlt
   subst hA
   have HRS := zh (HSS.out wr hf _ (ze hlt))
   have HN : Hid (l ++ hs[i].st = takenF (hs.take (i + 1))) := zh (by rw [hl2, takenF_step hlt])
   have htot : l.length + hs[i].st.length ≤ 100000 := by
    have h1 : (takenF (hs.take (i + 1))).length ≤ (takenF hs).length := by
     have h2 : takenF hs = takenF (hs.take (i + 1)) ++ takenF (hs.drop (i + 1)) := by unfold takenF; rw [← zV, List.take_append_drop]
     rw [h2, zg]
     omega
    have h3 := HTO.out
    rw [← HN.out, zg] at h1
    omega
   generalize hs[i] = x at c0 HRS HN htot
   clear hl2 hsl hf
   go_wp2_with (at_builtin; refine jD _ rfl (.tmp 14) (.tmp 22) _ rfl w.heap.size 3 i0 _ 1 8 Tryz.underlying26 hi hz0 hz1 hz2 rfl (by omega) _ l.length _ rfl HSL.out _ _ x.st.length _ (ivs x.st) rfl (by rw [zB, Nat.mul_one]) HRS.out (ivs_one _) (by unfold maxLen; omega) (by omega) HF.out.size ?_; intro v5 x5 hs5 hf5 ha5)
   have HS5 : Hid (Sl x5 w.heap.size 3 1 v5 (l ++ x.st).length (ivs (l ++ x.st))) := zh (by rw [zg, ivs_app]; exact hs5)
   have HF5 : Hid (Fresh w x5) := zh (HF.out.trans' hf5 (fun k hk e => by have := (HSL.out.lt k e).1; omega))
   clear hs5 hf5 ha5
   go_wp2_with fail
   go_roundw
   case rel => exact ⟨i + 1, l ++ x.st, by omega, by go_num, HN.out, HS5.out, HF5.out⟩
   case measure => simp [intOf]; omega
  ·have hlti : ¬ (i : Int) < (hs.length : Int) := by omega
   have HE : Hid (l = takenF hs) := zh (by rw [hl2, zD (by omega)])
   clear hl2 hsl hf
   go_wp2_with fail
   go_ret
   unfold OwnL
   rw [← HE.out]
   exact ⟨_, rfl, HSL.out, HF.out⟩
def putG (n : Int) : List Int → Bool → List Int
 | [], d => if d = true then [] else [n]
 | x :: r, d => (if d = false ∧ n < x then [n, x] else [x]) ++ putG n r (d || decide (n < x))
theorem putG_step {l : List Int} {i : Nat} (h : i < l.length) (n : Int) (d : Bool) : putG n (l.drop i) d = (if d = false ∧ n < l[i] then [n, l[i]] else [l[i]]) ++ putG n (l.drop (i + 1)) (d || decide (n < l[i])) := by
 rw [zK h, putG]
theorem putG_len (n : Int) : ∀ (l : List Int) (d : Bool), (putG n l d).length ≤ l.length + 1
 | [], d => by unfold putG; split <;> simp
 | x :: r, true => by
  have := putG_len n r true
  unfold putG
  simp
  exact this
 | x :: r, false => by
  unfold putG
  by_cases h : n < x
  ·rw [zl ⟨rfl, h⟩, zc h]
   have h2 : ∀ l : List Int, (putG n l true).length = l.length := by
    intro l
    induction l with
    | nil => simp [putG]
    | cons y t ih => unfold putG; simp [ih]
   simp [h2]
  ·rw [zk (fun k => h k.2), zb h]
   have := putG_len n r false
   simp
   omega
theorem snoc_sl {x : World} {B : Nat} {v : Value} {l : List Int} {y : Int} (h : Sl x B 3 1 v (l.length + 1) (ivs l ++ [.int .i64 y])) : Sl x B 3 1 v (l ++ [y]).length (ivs (l ++ [y])) := by
 rw [zg, List.length_singleton, ivs_app]
 exact h
theorem put_any (w : World) (A : Option Addr) (c : Nat) (l : List Int) (n : Int) (hA : Rd w w.heap.size A (ivs l)) (hl : l.length ≤ 1000) :
 Calls Tryz.prog 128 #[.slice A l.length c, .int .i64 n] w fun e w' => OwnL w (putG n l false) e w' := by
 obtain ⟨i0, hi, hz0, hz1, hz2⟩ := info_parts info_i64
 have HA := zh hA
 clear hA
 go_in
 go_wp2_with fail
 go_loopw [5, 6, 7] (fun v5 v6 v7 wr => ∃ (i : Nat) (acc : List Int) (d : Bool), i ≤ l.length ∧ v7 = .int .i64 (i : Int) ∧ v6 = .bool d ∧ acc.length ≤ i + d.toNat ∧ putG n l false = acc ++ putG n (l.drop i) d ∧ Sl wr w.heap.size 3 1 v5 acc.length (ivs acc) ∧ Fresh w wr) (fun _ _ v7 _ => l.length - (intOf v7).toNat)
 case atStart => exact ⟨0, [], false, by omega, rfl, rfl, by simp, rfl, Sl.nil _ _ _ _, za _ _⟩
 case round =>
  obtain ⟨i, acc, d, hil, rfl, rfl, hal0, hp, hsl, hf⟩ := hrel
  have HAL := zh hal0
  have hal : acc.length ≤ i + 1 := by have := Bool.toNat_le d; omega
  clear hal0
  have hi0 : (0 : Int) ≤ (i : Int) := by omega
  have HF := zh hf
  have HP := zh hp
  obtain ⟨A5, c5, rfl, _⟩ := hsl.shape
  have HSL := zh hsl
  clear hsl hf hp
  by_cases hlt : i < l.length
  ·have hlti : (i : Int) < (l.length : Int) := by omega
   obtain ⟨b, o, hAe, _, hc⟩ := HA.out.at_ (k := i) (by simpa using hlt)
   subst hAe
   rw [List.getElem_map] at hc
   have HC : Hid (∀ w', Fresh w w' → w'.cell? ⟨b, o + i, none⟩ = some (.int .i64 l[i])) := zh fun w' F => (F.cell (World.block_lt_of_cell? _ _ hc) (fun f => f)).trans hc
   have HST : Hid (putG n l false = acc ++ ((if d = false ∧ n < l[i] then [n, l[i]] else [l[i]]) ++ putG n (l.drop (i + 1)) (d || decide (n < l[i])))) := zh (by rw [HP.out, putG_step hlt])
   clear hc
   generalize l[i] = x at HC HST
   have y0 := HC.out wr HF.out
   by_cases hins : d = false ∧ n < x
   ·obtain ⟨rfl, hnx⟩ := hins
    have d1 : decide (n < x) = true := zc hnx
    have HN : Hid (putG n l false = (acc ++ [n] ++ [x]) ++ putG n (l.drop (i + 1)) true) := zh (by rw [HST.out, zl ⟨rfl, hnx⟩, d1]; simp)
    have R1 := zh (qE wr (.int .i64 n) 3)
    have HSA := zh (HSL.out.alloc (.cells #[.int .i64 n] 3))
    have t1 : acc.length + 1 ≤ maxLen := by unfold maxLen; omega
    have t2 : (acc.length + 1) * 8 ≤ 140737488355328 := by omega
    have t3 : w.heap.size ≤ (wr.alloc (.cells #[.int .i64 n] 3)).heap.size := by have := HF.out.size; rw [zJ]; omega
    have t4 : ∀ u ∈ [Value.int .i64 n], u.oneCell' = true := fun u hu => by simp at hu; subst hu; rfl
    clear hnx
    have t5 : acc.length + 1 + 1 ≤ maxLen := by unfold maxLen; omega
    have t6 : (acc.length + 1 + 1) * 8 ≤ 140737488355328 := by omega
    have t7 : ∀ x6 : World, Frm (fun k => (Value.slice A5 acc.length c5).ownBlock = some k) (wr.alloc (.cells #[.int .i64 n] 3)) x6 → w.heap.size ≤ (x6.alloc (.cells #[.int .i64 x] 3)).heap.size := fun x6 F => by have := F.size; rw [zJ]; omega
    have t8 : ∀ u ∈ [Value.int .i64 x], u.oneCell' = true := fun u hu => by simp at hu; subst hu; rfl
    have t9 : ∀ x6 : World, Frm (fun k => (Value.slice A5 acc.length c5).ownBlock = some k) (wr.alloc (.cells #[.int .i64 n] 3)) x6 → x6.cell? ⟨b, o + i, none⟩ = some (.int .i64 x) := fun x6 F => HC.out x6 ((HF.out.alloc _).trans' F (fun k hk e => by have := (HSA.out.lt k e).1; omega))
    go_wp2_with (first | (at_builtin; refine jD _ rfl (.tmp 24) (.tmp 26) _ rfl w.heap.size 3 i0 _ 1 8 Tryz.underlying26 hi hz0 hz1 hz2 rfl Nat.one_pos _ acc.length _ rfl HSA.out _ _ 1 _ _ rfl rfl R1.out t4 t1 t2 t3 ?_; intro v6 x6 hsx6 hfx6 hax6; have y1 := t9 _ hfx6) | (at_builtin; refine jD _ rfl (.tmp 28) (.tmp 33) _ rfl w.heap.size 3 i0 _ 1 8 Tryz.underlying26 hi hz0 hz1 hz2 rfl Nat.one_pos _ (acc.length + 1) _ rfl (hsx6.alloc _) _ _ 1 _ _ rfl rfl (qE _ _ _) t8 t5 t6 (t7 _ hfx6) ?_; intro v7 x7 hsx7 hfx7 hax7))
    have HS7 : Hid (Sl x7 w.heap.size 3 1 v7 (acc ++ [n] ++ [x]).length (ivs (acc ++ [n] ++ [x]))) := zh (snoc_sl (by rw [zg, List.length_singleton, ivs_app]; exact hsx7))
    have HF7 : Hid (Fresh w x7) := zh ((((HF.out.alloc _).trans' hfx6 (fun k hk e => by have := (HSA.out.lt k e).1; omega)).alloc _).trans' hfx7 (fun k hk e => by have := ((hsx6.alloc (.cells #[.int .i64 x] 3)).lt k e).1; omega))
    clear hsx6 hfx6 hax6 hsx7 hfx7 hax7 t7 t9 y1
    go_roundw
    case rel => exact ⟨i + 1, acc ++ [n] ++ [x], true, by omega, by go_num, rfl, by (have h := HAL.out; simp at h ⊢; omega), HN.out, HS7.out, HF7.out⟩
    case measure => simp [intOf]; omega
   ·have HN : Hid (putG n l false = (acc ++ [x]) ++ putG n (l.drop (i + 1)) (d || decide (n < x))) := zh (by rw [HST.out, zk hins]; simp)
    have R2 := zh (qE wr (.int .i64 x) 3)
    have HSB := zh (HSL.out.alloc (.cells #[.int .i64 x] 3))
    have t1 : acc.length + 1 ≤ maxLen := by unfold maxLen; omega
    have t2 : (acc.length + 1) * 8 ≤ 140737488355328 := by omega
    have t3 : w.heap.size ≤ (wr.alloc (.cells #[.int .i64 x] 3)).heap.size := by have := HF.out.size; rw [zJ]; omega
    have t4 : ∀ u ∈ [Value.int .i64 x], u.oneCell' = true := fun u hu => by simp at hu; subst hu; rfl
    cases d with
    | true =>
     clear hins
     go_wp2_with (at_builtin; refine jD _ rfl (.tmp 28) (.tmp 33) _ rfl w.heap.size 3 i0 _ 1 8 Tryz.underlying26 hi hz0 hz1 hz2 rfl Nat.one_pos _ acc.length _ rfl HSB.out _ _ 1 _ _ rfl rfl R2.out t4 t1 t2 t3 ?_; intro v7 x7 hsx7 hfx7 hax7)
     have HS7 : Hid (Sl x7 w.heap.size 3 1 v7 (acc ++ [x]).length (ivs (acc ++ [x]))) := zh (snoc_sl hsx7)
     have HF7 : Hid (Fresh w x7) := zh ((HF.out.alloc _).trans' hfx7 (fun k hk e => by have := (HSB.out.lt k e).1; omega))
     clear hsx7 hfx7 hax7
     go_wp2_with fail
     go_roundw
     case rel => exact ⟨i + 1, acc ++ [x], true, by omega, by go_num, rfl, by (have h := HAL.out; simp at h ⊢; omega), HN.out, HS7.out, HF7.out⟩
     case measure => simp [intOf]; omega
    | false =>
     have hnx : ¬ n < x := fun h => hins ⟨rfl, h⟩
     have d1 : decide (n < x) = false := zb hnx
     have HN2 : Hid (putG n l false = (acc ++ [x]) ++ putG n (l.drop (i + 1)) false) := zh (by have h := HN.out; rw [d1] at h; exact h)
     clear hins
     go_wp2_with (at_builtin; refine jD _ rfl (.tmp 28) (.tmp 33) _ rfl w.heap.size 3 i0 _ 1 8 Tryz.underlying26 hi hz0 hz1 hz2 rfl Nat.one_pos _ acc.length _ rfl HSB.out _ _ 1 _ _ rfl rfl R2.out t4 t1 t2 t3 ?_; intro v7 x7 hsx7 hfx7 hax7)
     have HS7 : Hid (Sl x7 w.heap.size 3 1 v7 (acc ++ [x]).length (ivs (acc ++ [x]))) := zh (snoc_sl hsx7)
     have HF7 : Hid (Fresh w x7) := zh ((HF.out.alloc _).trans' hfx7 (fun k hk e => by have := (HSB.out.lt k e).1; omega))
     clear hsx7 hfx7 hax7
     go_wp2_with fail
     go_roundw
     case rel => exact ⟨i + 1, acc ++ [x], false, by omega, by go_num, rfl, by (have h := HAL.out; simp at h ⊢; omega), HN2.out, HS7.out, HF7.out⟩
     case measure => simp [intOf]; omega
  ·have hlti : ¬ (i : Int) < (l.length : Int) := by omega
   cases d with
   | true =>
    have HE : Hid (putG n l false = acc) := zh (by rw [HP.out, List.drop_eq_nil_of_le (by omega)]; simp [putG])
    go_wp2_with fail
    go_ret
    unfold OwnL
    rw [HE.out]
    exact ⟨_, rfl, HSL.out, HF.out⟩
   | false =>
    have HE : Hid (putG n l false = acc ++ [n]) := zh (by rw [HP.out, List.drop_eq_nil_of_le (by omega)]; simp [putG])
    have R2 := zh (qE wr (.int .i64 n) 3)
    have HSB := zh (HSL.out.alloc (.cells #[.int .i64 n] 3))
    have t1 : acc.length + 1 ≤ maxLen := by unfold maxLen; omega
    have t2 : (acc.length + 1) * 8 ≤ 140737488355328 := by omega
    have t3 : w.heap.size ≤ (wr.alloc (.cells #[.int .i64 n] 3)).heap.size := by have := HF.out.size; rw [zJ]; omega
    have t4 : ∀ u ∈ [Value.int .i64 n], u.oneCell' = true := fun u hu => by simp at hu; subst hu; rfl
    go_wp2_with (at_builtin; refine jD _ rfl (.tmp 37) (.tmp 39) _ rfl w.heap.size 3 i0 _ 1 8 Tryz.underlying26 hi hz0 hz1 hz2 rfl Nat.one_pos _ acc.length _ rfl HSB.out _ _ 1 _ _ rfl rfl R2.out t4 t1 t2 t3 ?_; intro v7 x7 hsx7 hfx7 hax7)
    have HS7 : Hid (Sl x7 w.heap.size 3 1 v7 (acc ++ [n]).length (ivs (acc ++ [n]))) := zh (snoc_sl hsx7)
    have HF7 : Hid (Fresh w x7) := zh ((HF.out.alloc _).trans' hfx7 (fun k hk e => by have := (HSB.out.lt k e).1; omega))
    clear hsx7 hfx7 hax7
    go_wp2_with fail
    go_ret
    unfold OwnL
    rw [HE.out]
    exact ⟨_, rfl, HS7.out, HF7.out⟩
end
end Go.Proofs.YtnmokpbomeamfaaGreat

/- Proved here, for the statement ClientOnceSaid: laws that its walk leans on. It holds with no condition. (Put together and shortened by a program out of many texts: On40, On46, On44, On45.) -/
import Derived.Test.YtnmokpbomeamfaaGreatZ18
import Derived.Test.YtnmokpbomeamfaaGreatZ12
set_option linter.unusedVariables false
set_option maxRecDepth 100000
set_option maxHeartbeats 64000000
namespace Go.Proofs.YtnmokpbomeamfaaGreat
section
open Go.RowKit QueueM
theorem conv_sb (w : World) (bs : List UInt8) : ∃ (c : Nat) (W1 : World), (convert 9 39 (.string (str bs))).run Tryz.prog w = .ok (.slice (some ⟨w.heap.size, 0, none⟩) bs.length c) W1 ∧ Fresh w W1 ∧ Rd W1 W1.heap.size (some ⟨w.heap.size, 0, none⟩) (bs.map bv) := by
 have h := run_bytes_of_string (P := Tryz.prog) w 9 39 5 (str bs) Tryz.underlying9 Tryz.underlying39 Tryz.underlying5
 have hsz : (str bs).size = bs.length := by unfold str; simp [ByteArray.size]
 generalize grownCap w (str bs).size 0 5 = cap at h
 rw [hsz] at h
 refine ⟨_, _, h, (za _ w).drew.alloc _, fun _ => ⟨w.heap.size, 0, rfl, by simp, fun j u hu => ?_⟩⟩
 have hb := heap_alloc_new w.drew (.cells (bytesRow (str bs) cap) 5 ((bytesRow (str bs) cap).size, (bytesRow (str bs) cap).size + 1))
 have hc := cell_of_row _ _ (0 + j) _ _ _ hb
 refine hc.trans ?_
 rw [Nat.zero_add]
 unfold bytesRow
 have hj : j < bs.length := by
  rcases zL j bs.length with hh | hh
  ·exact hh
  ·rw [List.getElem?_eq_none (by simpa using hh)] at hu
   cases hu
 rw [Array.getElem?_append_left (by unfold str; simpa using hj)]
 rw [← hu]
 unfold str
 simp
 rfl
def qK (r : Rep) : List UInt8 := numsB [r.code] ++ FieldM.text r.pnr ++ numsB [r.st, r.fl, r.cl, r.mn, r.tm, (r.left.length : Int)] ++ numsB r.left ++ numsB [(r.labels.length : Int)] ++ r.labels.flatMap FieldM.text
structure RepB (r : Rep) : Prop where
 code : 0 ≤ r.code ∧ r.code ≤ 1099511627776
 pnr : r.pnr.length ≤ 16
 st : 0 ≤ r.st ∧ r.st ≤ 1099511627776
 fl : 0 ≤ r.fl ∧ r.fl ≤ 1099511627776
 cl : 0 ≤ r.cl ∧ r.cl ≤ 1099511627776
 mn : 0 ≤ r.mn ∧ r.mn ≤ 1099511627776
 tm : 0 ≤ r.tm ∧ r.tm ≤ 1099511627776
 left : r.left.length ≤ 8 ∧ ∀ x ∈ r.left, 0 ≤ x ∧ x ≤ 1099511627776
 labels : r.labels.length ≤ 600 ∧ ∀ x ∈ r.labels, x.length ≤ 16
theorem text_le (b : List UInt8) (h : b.length ≤ 1000000) : (FieldM.text b).length ≤ b.length + 10 := by
 have h1 := FieldM.num_length b.length
 have h2 := FieldM.wid_le (n := b.length) (by omega)
 unfold FieldM.text
 rw [zg]
 omega
theorem texts_le (l : List (List UInt8)) (h : ∀ x ∈ l, x.length ≤ 16) : (l.flatMap FieldM.text).length ≤ l.length * 26 := by
 induction l with
 | nil => simp
 | cons x r ih =>
  have h1 := ih (fun y hy => h y (List.mem_cons_of_mem _ hy))
  have h2 := text_le x (by have := h x (by simp); omega)
  have h3 := h x (by simp)
  rw [zq, zg, zG]
  omega
theorem answer18_any (w : World) (B : Nat) (v : Value) (r : Rep) (hv : RepV w B v r) (hr : RepB r) :
 Calls Tryz.prog 47 #[v] w fun e w' => OwnB w (qK r) e w' := by
 obtain ⟨i0, hi, hz0, hz1, hz2⟩ := info_parts info_u8
 obtain ⟨zs, rfl, A, c, A', c', hzs, s1, s2⟩ := hv.z
 obtain ⟨W, hW⟩ : ∃ W, w.alloc (.cells zs.toArray 106) = W := ⟨_, rfl⟩
 have HFW : Hid (Fresh w W) := zh (by rw [← hW]; exact jC _ _)
 have HBX : Hid (Blk W w.heap.size 106 zs.toArray) := zh (by rw [← hW]; exact Blk.new _ _ _)
 obtain ⟨code, pnr, st, fl, cl, mn, tm, left, labels⟩ := r
 dsimp only at hzs s1 s2
 have HCF : Hid (∀ w', Fresh W w' → w'.cell? ⟨w.heap.size, 0, none⟩ = some (.int .i64 code) ∧ w'.cell? ⟨w.heap.size, 1, none⟩ = some (.string (str pnr)) ∧ w'.cell? ⟨w.heap.size, 2, none⟩ = some (.int .i64 st) ∧ w'.cell? ⟨w.heap.size, 3, none⟩ = some (.int .i64 fl) ∧ w'.cell? ⟨w.heap.size, 4, none⟩ = some (.int .i64 cl) ∧ w'.cell? ⟨w.heap.size, 5, none⟩ = some (.int .i64 mn) ∧ w'.cell? ⟨w.heap.size, 6, none⟩ = some (.int .i64 tm) ∧ w'.cell? ⟨w.heap.size, 7, none⟩ = some (.slice A left.length c) ∧ w'.cell? ⟨w.heap.size, 8, none⟩ = some (.slice A' labels.length c')) := zh fun w' F => by
  have hb := HBX.out.frm F (fun f => f)
  rw [hzs] at hb
  exact ⟨hb.cell 0, hb.cell 1, hb.cell 2, hb.cell 3, hb.cell 4, hb.cell 5, hb.cell 6, hb.cell 7, hb.cell 8⟩
 have HS1 := zh s1
 have HS2 := zh s2
 clear hzs s1 s2 hv
 obtain ⟨b1, b2, b3, b4, b5, b6, b7, b8, b9⟩ := hr
 dsimp only at b1 b2 b3 b4 b5 b6 b7 b8 b9
 have HN1 := zh (numbers18_any (W.alloc (.cells #[.int .i64 code] 3)) (some ⟨W.heap.size, 0, none⟩) 1 [code] (by have := qE W (.int .i64 code) 3; rw [zJ]; exact this) (by simp) (by intro x hx; simp at hx; omega))
 have l1 : (numsB [code]).length ≤ 10 := qA [code] (by intro x hx; simp at hx; omega)
 have l2 := text_le pnr (by omega)
 have HB8 := zh b8
 have HB9 := zh b9
 clear b8 b9
 obtain ⟨x0, x1, x2, x3, x4, x5, x6, x7, x8⟩ := HCF.out W (za _ _)
 go_in
 go_upto_region 1 with fail
 try rw [hW]
 clear hW
 go_wp2_with fail
 refine HN1.out.mono ?_
 rintro e w2 ⟨v2, rfl, hs2, f2⟩
 have HF2 : Hid (Fresh W w2) := zh ((jC _ _).trans f2)
 have HSL : Hid (Sl w2 W.heap.size 5 1 v2 (numsB [code]).length ((numsB [code]).map bv)) := zh (hs2.less (by rw [zJ]; omega))
 clear hs2 f2 HN1 x0 x1 x2 x3 x4 x5 x6 x7 x8
 obtain ⟨x0, x1, x2, x3, x4, x5, x6, x7, x8⟩ := HCF.out w2 HF2.out
 obtain ⟨c3, w3, hc3, f3, r3⟩ := conv_sb w2 pnr
 have HN2 := zh (refText_any (some ⟨w2.heap.size, 0, none⟩) c3 pnr w3 r3 (by omega))
 have HF3 : Hid (Fresh W w3) := zh (HF2.out.trans f3)
 have HSL3 := zh (HSL.out.fresh f3)
 clear f3 r3
 go_wp2_with fail
 clear x0 x1 x2 x3 x4 x5 x6 x7 x8
 refine HN2.out.mono ?_
 rintro e w4 ⟨v4, rfl, hs4, f4⟩
 have HFN : Hid (Fresh W w4) := zh (HF3.out.trans f4)
 have HSN := zh (HSL3.out.fresh f4)
 obtain ⟨A4, c4, rfl, _⟩ := hs4.shape
 have HRN := zh hs4.rd
 clear hs4 f4
 go_wp2_with (at_builtin; refine jK (by rfl) (.tmp 9) (.tmp 13) _ rfl W 5 i0 _ 1 1 Tryz.underlying39 hi hz0 hz1 hz2 rfl Nat.one_pos _ (numsB [code]).length _ rfl HSN.out _ _ (FieldM.text pnr).length _ _ rfl (by simp) HRN.out (bv_one _) (by (try simp only [zg]); omega) (by (try simp only [zg]); omega) HFN.out ?_; intro v5 y5 hs5 hf5; have HSy5 : Hid (Sl y5 W.heap.size 5 1 v5 (numsB [code] ++ FieldM.text pnr).length ((numsB [code] ++ FieldM.text pnr).map bv)) := zh (by rw [zg, zn]; exact hs5); have HFy5 := zh hf5; obtain ⟨x0, x1, x2, x3, x4, x5, x6, x7, x8⟩ := HCF.out y5 hf5; clear hs5 hf5)
 have l3 : (numsB [st, fl, cl, mn, tm, (left.length : Int)]).length ≤ 60 := qA [st, fl, cl, mn, tm, (left.length : Int)] (by intro x hx; simp at hx; have := HB8.out.1; omega)
 have HN3 := zh (numbers18_any (y5.alloc (.cells #[.int .i64 st, .int .i64 fl, .int .i64 cl, .int .i64 mn, .int .i64 tm, .int .i64 (left.length : Int)] 3)) (some ⟨y5.heap.size, 0, none⟩) 6 [st, fl, cl, mn, tm, (left.length : Int)] (by have := jL y5 [.int .i64 st, .int .i64 fl, .int .i64 cl, .int .i64 mn, .int .i64 tm, .int .i64 (left.length : Int)] 3; rw [zJ]; exact this) (by simp) (by intro x hx; simp at hx; have := HB8.out.1; omega))
 refine HN3.out.mono ?_
 rintro e w6 ⟨v6, rfl, hs4, f4⟩
 have HFN : Hid (Fresh W w6) := zh ((HFy5.out.alloc _).trans f4)
 have HSN := zh ((HSy5.out.alloc _).fresh f4)
 obtain ⟨A4, c4, rfl, _⟩ := hs4.shape
 have HRN := zh hs4.rd
 clear hs4 f4 x0 x1 x2 x3 x4 x5 x6 x7 x8
 go_wp2_with (at_builtin; refine jK (by rfl) (.tmp 15) (.tmp 30) _ rfl W 5 i0 _ 1 1 Tryz.underlying39 hi hz0 hz1 hz2 rfl Nat.one_pos _ (numsB [code] ++ FieldM.text pnr).length _ rfl HSN.out _ _ (numsB [st, fl, cl, mn, tm, (left.length : Int)]).length _ _ rfl (by simp) HRN.out (bv_one _) (by (try simp only [zg]); omega) (by (try simp only [zg]); omega) HFN.out ?_; intro v5 y7 hs5 hf5; have HSy7 : Hid (Sl y7 W.heap.size 5 1 v5 (numsB [code] ++ FieldM.text pnr ++ numsB [st, fl, cl, mn, tm, (left.length : Int)]).length ((numsB [code] ++ FieldM.text pnr ++ numsB [st, fl, cl, mn, tm, (left.length : Int)]).map bv)) := zh (by rw [zg, zn]; exact hs5); have HFy7 := zh hf5; obtain ⟨x0, x1, x2, x3, x4, x5, x6, x7, x8⟩ := HCF.out y7 hf5; clear hs5 hf5)
 have l4 : (numsB left).length ≤ 80 := by
  have h1 := qA left (fun x hx => by have := HB8.out.2 x hx; omega)
  have := HB8.out.1
  omega
 have HN4 := zh (numbers18_any y7 A c left ((HS1.out.fresh (HFW.out.trans HFy7.out)).rd) (by have := HB8.out.1; omega) (fun x hx => by have := HB8.out.2 x hx; omega))
 refine HN4.out.mono ?_
 rintro e w8 ⟨v8, rfl, hs4, f4⟩
 have HFN : Hid (Fresh W w8) := zh (HFy7.out.trans f4)
 have HSN := zh (HSy7.out.fresh f4)
 obtain ⟨A4, c4, rfl, _⟩ := hs4.shape
 have HRN := zh hs4.rd
 clear hs4 f4 x0 x1 x2 x3 x4 x5 x6 x7 x8
 go_wp2_with (at_builtin; refine jK (by rfl) (.tmp 32) (.tmp 35) _ rfl W 5 i0 _ 1 1 Tryz.underlying39 hi hz0 hz1 hz2 rfl Nat.one_pos _ (numsB [code] ++ FieldM.text pnr ++ numsB [st, fl, cl, mn, tm, (left.length : Int)]).length _ rfl HSN.out _ _ (numsB left).length _ _ rfl (by simp) HRN.out (bv_one _) (by (try simp only [zg]); omega) (by (try simp only [zg]); omega) HFN.out ?_; intro v5 y9 hs5 hf5; have HSy9 : Hid (Sl y9 W.heap.size 5 1 v5 (numsB [code] ++ FieldM.text pnr ++ numsB [st, fl, cl, mn, tm, (left.length : Int)] ++ numsB left).length ((numsB [code] ++ FieldM.text pnr ++ numsB [st, fl, cl, mn, tm, (left.length : Int)] ++ numsB left).map bv)) := zh (by rw [zg, zn]; exact hs5); have HFy9 := zh hf5; obtain ⟨x0, x1, x2, x3, x4, x5, x6, x7, x8⟩ := HCF.out y9 hf5; clear hs5 hf5)
 have l5 : (numsB [(labels.length : Int)]).length ≤ 10 := qA [(labels.length : Int)] (by intro x hx; simp at hx; have := HB9.out.1; omega)
 have HN5 := zh (numbers18_any (y9.alloc (.cells #[.int .i64 (labels.length : Int)] 3)) (some ⟨y9.heap.size, 0, none⟩) 1 [(labels.length : Int)] (by have := qE y9 (.int .i64 (labels.length : Int)) 3; rw [zJ]; exact this) (by simp) (by intro x hx; simp at hx; have := HB9.out.1; omega))
 refine HN5.out.mono ?_
 rintro e wa ⟨va, rfl, hs4, f4⟩
 have HFN : Hid (Fresh W wa) := zh ((HFy9.out.alloc _).trans f4)
 have HSN := zh ((HSy9.out.alloc _).fresh f4)
 obtain ⟨A4, c4, rfl, _⟩ := hs4.shape
 have HRN := zh hs4.rd
 clear hs4 f4 x0 x1 x2 x3 x4 x5 x6 x7 x8
 go_wp2_with (at_builtin; refine jK (by rfl) (.tmp 37) (.tmp 42) _ rfl W 5 i0 _ 1 1 Tryz.underlying39 hi hz0 hz1 hz2 rfl Nat.one_pos _ (numsB [code] ++ FieldM.text pnr ++ numsB [st, fl, cl, mn, tm, (left.length : Int)] ++ numsB left).length _ rfl HSN.out _ _ (numsB [(labels.length : Int)]).length _ _ rfl (by simp) HRN.out (bv_one _) (by (try simp only [zg]); omega) (by (try simp only [zg]); omega) HFN.out ?_; intro v5 yb hs5 hf5; have HSyb : Hid (Sl yb W.heap.size 5 1 v5 (numsB [code] ++ FieldM.text pnr ++ numsB [st, fl, cl, mn, tm, (left.length : Int)] ++ numsB left ++ numsB [(labels.length : Int)]).length ((numsB [code] ++ FieldM.text pnr ++ numsB [st, fl, cl, mn, tm, (left.length : Int)] ++ numsB left ++ numsB [(labels.length : Int)]).map bv)) := zh (by rw [zg, zn]; exact hs5); have HFyb := zh hf5; obtain ⟨x0, x1, x2, x3, x4, x5, x6, x7, x8⟩ := HCF.out yb hf5; clear hs5 hf5)
 clear x0 x1 x2 x3 x4 x5 x6 x7 x8
 obtain ⟨base, hbase⟩ : ∃ z, z = numsB [code] ++ FieldM.text pnr ++ numsB [st, fl, cl, mn, tm, (left.length : Int)] ++ numsB left ++ numsB [(labels.length : Int)] := ⟨_, rfl⟩
 rw [← hbase] at HSyb
 have hbl : base.length ≤ 200 := by rw [hbase]; simp only [zg]; omega
 have HFIN : Hid (qK ⟨code, pnr, st, fl, cl, mn, tm, left, labels⟩ = base ++ labels.flatMap FieldM.text) := zh (by rw [hbase]; rfl)
 have hl6 : labels.length ≤ 600 := HB9.out.1
 clear hbase
 go_loopw [3, 4] (fun v3 v4 wr => ∃ (k : Nat) (acc : List UInt8), k ≤ labels.length ∧ v4 = .int .i64 (k : Int) ∧ acc = base ++ (labels.take k).flatMap FieldM.text ∧ Sl wr W.heap.size 5 1 v3 acc.length (acc.map bv) ∧ Fresh W wr) (fun _ v4 _ => labels.length - (intOf v4).toNat)
 case atStart => exact ⟨0, base, by omega, rfl, by simp, HSyb.out, HFyb.out⟩
 case round =>
  obtain ⟨k, acc, hkl, rfl, hacc, hsl, hf⟩ := hrel
  have hk0 : (0 : Int) ≤ (k : Int) := by omega
  have HF := zh hf
  have HAC := zh hacc
  have hal : acc.length ≤ 20000 := by
   have h1 := texts_le (labels.take k) (fun x hx => HB9.out.2 x (List.mem_of_mem_take hx))
   rw [zw] at h1
   rw [hacc, zg]
   omega
  obtain ⟨A6, c6, rfl, _⟩ := hsl.shape
  have HSL := zh hsl
  obtain ⟨x0, x1, x2, x3, x4, x5, x6, x7, x8⟩ := HCF.out wr hf
  clear hsl hf hacc
  by_cases hlt : k < labels.length
  ·have hlti : (k : Int) < (labels.length : Int) := by omega
   have d1 : decide ((k : Int) < (labels.length : Int)) = true := zc hlti
   obtain ⟨b6, o6, hSA, _, hc6⟩ := (HS2.out.fresh (HFW.out.trans HF.out)).rd.at_ (k := k) (by unfold svs; simpa using hlt)
   subst hSA
   unfold svs at hc6
   rw [List.getElem_map] at hc6
   have hn1 := HB9.out.2 _ (ze hlt)
   have HN : Hid (acc ++ FieldM.text labels[k] = base ++ (labels.take (k + 1)).flatMap FieldM.text) := zh (by rw [zu hlt, zV, HAC.out]; simp)
   generalize labels[k] = nm at hc6 hn1 HN
   have l7 := text_le nm (by omega)
   obtain ⟨c5, w5, hc5, f5, r5⟩ := conv_sb wr nm
   have HN6 := zh (refText_any (some ⟨wr.heap.size, 0, none⟩) c5 nm w5 r5 (by omega))
   have HF5 : Hid (Fresh W w5) := zh (HF.out.trans f5)
   have HS5 := zh (HSL.out.fresh f5)
   clear f5 r5
   go_wp2_with fail
   refine HN6.out.mono ?_
   rintro e wc ⟨vc, rfl, hs4, f4⟩
   have HFN : Hid (Fresh W wc) := zh (HF5.out.trans f4)
   have HSN := zh (HS5.out.fresh f4)
   obtain ⟨A4, c4, rfl, _⟩ := hs4.shape
   have HRN := zh hs4.rd
   clear hs4 f4 x0 x1 x2 x3 x4 x5 x6 x7 x8
   go_wp2_with (at_builtin; refine jK (by rfl) (.tmp 51) (.tmp 58) _ rfl W 5 i0 _ 1 1 Tryz.underlying39 hi hz0 hz1 hz2 rfl Nat.one_pos _ (acc).length _ rfl HSN.out _ _ (FieldM.text nm).length _ _ rfl (by simp) HRN.out (bv_one _) (by (try simp only [zg]); omega) (by (try simp only [zg]); omega) HFN.out ?_; intro v5 yd hs5 hf5; have HSyd : Hid (Sl yd W.heap.size 5 1 v5 (acc ++ FieldM.text nm).length ((acc ++ FieldM.text nm).map bv)) := zh (by rw [zg, zn]; exact hs5); have HFyd := zh hf5; obtain ⟨x0, x1, x2, x3, x4, x5, x6, x7, x8⟩ := HCF.out yd hf5; clear hs5 hf5)
   go_roundw
   case rel => exact ⟨k + 1, acc ++ FieldM.text nm, by omega, by go_num, HN.out, HSyd.out, HFyd.out⟩
   case measure => simp [intOf]; omega
  ·have hlti : ¬ (k : Int) < (labels.length : Int) := by omega
   have d1 : decide ((k : Int) < (labels.length : Int)) = false := zb hlti
   have d2 : decide (k < labels.length) = false := zb hlt
   have HE : Hid (acc = qK ⟨code, pnr, st, fl, cl, mn, tm, left, labels⟩) := zh (by rw [HFIN.out, HAC.out, zD (by omega)])
   go_wp2_with fail
   go_ret
   unfold OwnB
   rw [← HE.out]
   exact ⟨_, rfl, HSL.out.less HFW.out.size, HFW.out.trans HF.out⟩
end
section
open QueueM
theorem jI {c : Int} (h : 0 ≤ c ∧ c ≤ 20) : RepB (repC c) :=
 ⟨⟨h.1, by show c ≤ _; omega⟩, by simp [repC], by simp [repC], by simp [repC], by simp [repC], by simp [repC], by simp [repC], ⟨by simp [repC], fun x hx => by cases hx⟩, ⟨by simp [repC], fun x hx => by cases hx⟩⟩
theorem left_bd (m : Fl) : ∀ x ∈ leftA m, 0 ≤ x ∧ x ≤ 1099511627776 := fun x hx => by have := leftA_bd m x hx; omega
theorem pl_of {n : Nat} {x : Book} (h : BookOk n x) (k : Nat) : (FlOk (plAt x k).f ∧ plAt x k ∈ x.fs) ∨ plAt x k = ⟨⟨0, 0, [], [], []⟩, []⟩ := by
 rcases zL k x.fs.length with hk | hk
 ·rw [jP hk]
  exact .inl ⟨(h.fl _ (ze hk)).1, ze hk⟩
 ·right
  unfold plAt
  simp [List.getD, hk]
theorem bk_of (x : Book) (i : Nat) : (bkAt x i ∈ x.l) ∨ bkAt x i = ⟨0, 0, 0, 0, 0, 0⟩ := by
 rcases zL i x.l.length with hk | hk
 ·rw [bkAt_get hk]
  exact .inl (ze hk)
 ·right
  unfold bkAt
  simp [List.getD, hk]
theorem left_few {n : Nat} {x : Book} (h : BookOk n x) (k : Nat) : (leftA (plAt x k).f).length ≤ 8 := by
 rw [leftA_len]
 rcases pl_of h k with h1 | h1
 ·exact h1.1.few.2
 ·rw [h1]; simp
theorem labels_few {m : Fl} (h : FlOk m) (ow : Int) : (labelsA m ow).length ≤ 600 ∧ ∀ x ∈ labelsA m ow, x.length ≤ 16 := by
 unfold labelsA
 split
 ·exact ⟨by simp, fun x hx => by cases hx⟩
 ·rename_i h1
  obtain ⟨k, hk, e1, e2⟩ := hs_at h1
  rw [e2]
  have hh := h.hold _ (ze hk)
  unfold namesA
  refine ⟨by rw [zB]; omega, fun x hx => ?_⟩
  obtain ⟨y, _, rfl⟩ := zQ.1 hx
  have := name_len m.gs.sum.toNat y.toNat
  omega
theorem labels_of {n : Nat} {x : Book} (h : BookOk n x) (k : Nat) (ow : Int) : (labelsA (plAt x k).f ow).length ≤ 600 ∧ ∀ y ∈ labelsA (plAt x k).f ow, y.length ≤ 16 := by
 rcases pl_of h k with h1 | h1
 ·exact labels_few h1.1 ow
 ·rw [h1]
  have e : labelsA (⟨0, 0, [], [], []⟩ : Fl) ow = [] := by
   unfold labelsA
   split
   ·rfl
   ·rename_i h2
    obtain ⟨k, hk, _⟩ := hs_at h2
    exact absurd hk (by simp)
  rw [e]
  exact ⟨by simp, fun y hy => by cases hy⟩
theorem loc_len (n : Nat) : (locOf n).length ≤ 16 := by unfold locOf digs; simp
theorem repB_told {n : Nat} {x : Book} (h : BookOk n x) (i : Nat) : RepB (toldA x i) := by
 have hb : (0 ≤ (bkAt x i).st ∧ (bkAt x i).st ≤ 3) ∧ (0 ≤ (bkAt x i).fl ∧ (bkAt x i).fl ≤ 9999) ∧ (0 ≤ (bkAt x i).cl ∧ (bkAt x i).cl ≤ 9999) ∧ (0 ≤ (bkAt x i).mn ∧ (bkAt x i).mn ≤ 9999) ∧ (0 ≤ (bkAt x i).un ∧ (bkAt x i).un ≤ 1099511627776) := by
  rcases bk_of x i with h1 | h1
  ·obtain ⟨_, a, b, c, d, e, _⟩ := h.bk _ h1
   exact ⟨by omega, a, b, c, e⟩
  ·rw [h1]; simp
 obtain ⟨a, b, c, d, e⟩ := hb
 unfold toldA
 refine ⟨by simp, loc_len _, ?_, ?_, ?_, ?_, ?_, ⟨left_few h _, left_bd _⟩, labels_of h _ _⟩ <;> dsimp only <;> omega
theorem take_code (m : Fl) (ow cl mn : Int) : 0 ≤ (takeA m ow cl mn).1 ∧ (takeA m ow cl mn).1 ≤ 20 := by
 unfold takeA
 split
 ·simp
 ·split
  ·simp
  ·split
   ·simp
   ·dsimp only
    unfold sellV
    split
    ·split <;> omega
    ·omega
theorem new_code (a b : Int) (c : List Int) (d : List Nat) : 0 ≤ (newA a b c d).1 ∧ (newA a b c d).1 ≤ 20 := by
 unfold newA
 split <;> simp
theorem add_code (v : Wt) (l : List Wt) : 0 ≤ (add v l).1 ∧ (add v l).1 ≤ 20 := by
 unfold add
 split
 ·split
  ·simp
  ·split <;> simp
 ·simp
theorem seat_code (m : Fl) (ow : Int) (b : List UInt8) : 0 ≤ (seatA m ow b).1 ∧ (seatA m ow b).1 ≤ 20 := by
 unfold seatA
 split
 ·simp
 ·split
  ·simp
  ·split <;> simp
theorem auto_code (m : Fl) (ow : Int) : 0 ≤ (autoA m ow).1 ∧ (autoA m ow).1 ≤ 20 := by
 unfold autoA
 split
 ·simp
 ·split
  ·simp
  ·split
   ·dsimp only
    unfold bestF
    split
    ·simp
    ·split <;> simp
   ·simp
theorem named_code (x : Book) (b : List UInt8) : 0 ≤ (jT x b).2 ∧ (jT x b).2 ≤ 20 := by
 unfold jT
 split
 ·dsimp only
  unfold readP
  split <;> simp
 ·split <;> simp
theorem repB_show {n : Nat} {x : Book} (h : BookOk n x) (hn : n ≤ 100) {c : Cm} (hc : CmB c) : RepB (showA x c) := by
 unfold showA
 split
 ·exact jI (by omega)
 ·split
  ·split
   ·exact jI (named_code _ _)
   ·exact repB_told h _
  ·split
   ·exact jI (by omega)
   ·have hfl := hc.fl
    have hq : (plAt x (qL c.fl x).toNat).q.length ≤ n := by
     rcases pl_of h (qL c.fl x).toNat with h1 | h1
     ·exact (h.hs h1.2).2
     ·rw [h1]; simp
    refine ⟨by simp [repC], by simp [repC], by simp [repC], ?_, by simp [repC], ?_, by simp [repC], ⟨left_few h _, left_bd _⟩, ⟨by simp [repC], fun x hx => by cases hx⟩⟩
    ·dsimp only; omega
    ·dsimp only; omega
theorem repB_apply {n : Nat} {x : Book} (h : BookOk n x) (hn : n < 100) {c : Cm} (hc : CmB c) : RepB (applyR x c).2 := by
 have ho := h.applyR hc
 unfold applyR at ho ⊢
 split
 ·rename_i h1
  rw [zl h1] at ho
  unfold applyA at ho ⊢
  split
  ·rename_i hk
   rw [zl hk] at ho
   unfold openA
   split
   ·exact jI (by omega)
   ·split
    ·exact jI (by omega)
    ·split
     ·exact jI (new_code _ _ _ _)
     ·rename_i h3
      have hf := (newA_ok h3).1
      have hfl := hc.fl
      refine ⟨by simp [repC], by simp [repC], by simp [repC], ?_, by simp [repC], by simp [repC], by simp [repC], ⟨?_, left_bd _⟩, ⟨by simp [repC], fun x hx => by cases hx⟩⟩
      ·dsimp only; omega
      ·dsimp only; rw [leftA_len]; exact hf.few.2
  ·rename_i hk
   rw [zk hk] at ho
   split
   ·rename_i hk
    rw [zl hk] at ho
    unfold holdA at ho ⊢
    split
    ·exact jI (by omega)
    ·rename_i g1
     rw [zk g1] at ho
     split
     ·exact jI (by omega)
     ·rename_i g2
      rw [zk g2] at ho
      split
      ·exact jI (by omega)
      ·rename_i g3
       rw [zk g3] at ho
       split
       ·exact jI (take_code _ _ _ _)
       ·rename_i g4
        rw [zk g4] at ho
        exact repB_told ho _
   ·rename_i hk
    rw [zk hk] at ho
    split
    ·rename_i hk
     rw [zl hk] at ho
     unfold waitA at ho ⊢
     split
     ·exact jI (by omega)
     ·rename_i g1
      rw [zk g1] at ho
      split
      ·exact jI (by omega)
      ·rename_i g2
       rw [zk g2] at ho
       split
       ·exact jI (by omega)
       ·rename_i g3
        rw [zk g3] at ho
        split
        ·exact jI (add_code _ _)
        ·rename_i g4
         rw [zk g4] at ho
         exact repB_told ho _
    ·rename_i hk
     rw [zk hk] at ho
     split
     ·have htm := hc.tm
      unfold clockA
      split
      ·exact jI (by omega)
      ·exact ⟨by simp [repC], by simp [repC], by simp [repC], by simp [repC], by simp [repC], by simp [repC], by dsimp only; omega, ⟨by simp [repC], fun x hx => by cases hx⟩, ⟨by simp [repC], fun x hx => by cases hx⟩⟩
     ·rename_i hk
      rw [zk hk] at ho
      split
      ·exact repB_show h (by omega) hc
      ·rename_i hk
       rw [zk hk] at ho
       split
       ·exact jI (named_code _ _)
       ·rename_i hk
        rw [zk hk] at ho
        unfold oneA at ho ⊢
        split
        ·rename_i g1
         rw [zl g1] at ho
         split
         ·exact jI (by omega)
         ·rename_i g2
          rw [zk g2] at ho
          exact repB_told ho _
        ·rename_i g1
         rw [zk g1] at ho
         split
         ·have hp := hc.pnr
          exact ⟨by simp [repC], hp, by simp [repC], by simp [repC], by simp [repC], by simp [repC], by simp [repC], ⟨by simp [repC], fun x hx => by cases hx⟩, ⟨by simp [repC], fun x hx => by cases hx⟩⟩
         ·rename_i g1
          rw [zk g1] at ho
          split
          ·exact jI (by omega)
          ·rename_i g1
           rw [zk g1] at ho
           split
           ·rename_i g1
            rw [zl g1] at ho
            split
            ·exact jI (seat_code _ _ _)
            ·rename_i g2
             rw [zk g2] at ho
             exact repB_told ho _
           ·rename_i g1
            rw [zk g1] at ho
            split
            ·exact jI (auto_code _ _)
            ·rename_i g2
             rw [zk g2] at ho
             exact repB_told ho _
 ·exact jI (by omega)
theorem answerB_le {r : Rep} (h : RepB r) : (qK r).length ≤ 60000 := by
 obtain ⟨h1, h2, h3, h4, h5, h6, h7, ⟨h8, h8'⟩, ⟨h9, h9'⟩⟩ := h
 have l1 := qA [r.code] (by intro x hx; simp at hx; omega)
 have l2 := text_le r.pnr (by omega)
 have l3 := qA [r.st, r.fl, r.cl, r.mn, r.tm, (r.left.length : Int)] (by intro x hx; simp at hx; omega)
 have l4 := qA r.left (fun x hx => by have := h8' x hx; omega)
 have l5 := qA [(r.labels.length : Int)] (by intro x hx; simp at hx; omega)
 have l6 := texts_le r.labels h9'
 simp only [zG, zX] at l1 l3 l5
 unfold qK
 simp only [zg]
 omega
end
section
open Go.RowKit ReadM
structure Rq where
 kind : Int
 client : Int
 seq : Int
 token : Int
 cmd : List UInt8
def rq0 : Rq := ⟨0, 0, 0, 0, []⟩
structure RqB (r : Rq) : Prop where
 kind : 0 ≤ r.kind ∧ r.kind ≤ 4
 client : 0 ≤ r.client ∧ r.client ≤ 1099511627776
 seq : 0 ≤ r.seq ∧ r.seq ≤ 1099511627776
 token : 0 ≤ r.token ∧ r.token ≤ 1099511627776
 cmd : r.cmd.length ≤ 4000
def rcel (r : Rq) (A : Option Addr) (c : Nat) : List Value := [.int .i64 r.kind, .int .i64 r.client, .int .i64 r.seq, .int .i64 r.token, .slice A r.cmd.length c]
def rqRight (kind client seq token : Int) (n : Nat) : Bool :=
 if kind = 1 then (client == 0 && seq == 0 && n == 0)
 else if kind = 2 then token == 0
 else if kind = 3 then (seq == 0 && token == 0 && n == 0)
 else if kind = 4 then (client == 0 && seq == 0 && token == 0) else false
def rightA (r : Rq) : Bool := rqRight r.kind r.client r.seq r.token r.cmd.length
theorem nat_zero_b (n : Nat) : ((n : Int) == 0) = (n == 0) := by
 rcases Nat.eq_zero_or_pos n with e | e
 ·subst e; rfl
 ·rw [zC.mpr (by omega), zC.mpr (by omega)]
theorem refRight19_any (w : World) (r : Rq) (hb : RqB r) (A : Option Addr) (c : Nat) :
 Calls Tryz.prog 42 #[.agg (rcel r A c).toArray] w fun e w' => e = .returned (.bool (rightA r)) ∧ Fresh w w' := by
 obtain ⟨kind, client, seq, token, cmd⟩ := r
 obtain ⟨⟨b0, b1⟩, ⟨b2, b3⟩, ⟨b4, b5⟩, ⟨b6, b7⟩, b8⟩ := hb
 unfold rightA rcel
 dsimp only at b0 b1 b2 b3 b4 b5 b6 b7 b8 ⊢
 generalize cmd.length = n at b8
 obtain ⟨W, hW⟩ : ∃ W, w.alloc (.cells #[.int .i64 kind, .int .i64 client, .int .i64 seq, .int .i64 token, .slice A n c] 67) = W := ⟨_, rfl⟩
 have HFW : Hid (Fresh w W) := zh (by rw [← hW]; exact jC _ _)
 have hbx : Blk W w.heap.size 67 #[.int .i64 kind, .int .i64 client, .int .i64 seq, .int .i64 token, .slice A n c] := by rw [← hW]; exact Blk.new _ _ _
 have HFI : Hid (∀ w', Fresh W w' → w'.cell? ⟨w.heap.size, 0, none⟩ = some (.int .i64 kind) ∧ w'.cell? ⟨w.heap.size, 1, none⟩ = some (.int .i64 client) ∧ w'.cell? ⟨w.heap.size, 2, none⟩ = some (.int .i64 seq) ∧ w'.cell? ⟨w.heap.size, 3, none⟩ = some (.int .i64 token) ∧ w'.cell? ⟨w.heap.size, 4, none⟩ = some (.slice A n c)) := zh fun w' F => by
  have h := hbx.frm F (fun f => f)
  exact ⟨h.cell 0, h.cell 1, h.cell 2, h.cell 3, h.cell 4⟩
 obtain ⟨y0, y1, y2, y3, y4⟩ := HFI.out W (za _ _)
 have HB3 : Hid (∀ x ∈ [client, seq, token], 0 ≤ x ∧ x ≤ 1099511627776) := zh (by intro x hx; simp at hx; rcases hx with rfl | rfl | rfl <;> omega)
 have R4 : Hid (Rd (W.alloc (.cells (ivs [client, seq, token]).toArray 3)) (W.heap.size + 1) (some ⟨W.heap.size, 0, none⟩) (ivs [client, seq, token])) := zh (jL W _ _)
 have HF4 := zh (jC W (.cells (ivs [client, seq, token]).toArray 3))
 have e4 : decide ((4000 : Int) < (n : Int)) = false := zb (by omega)
 have e5 : decide (4000 < n) = false := zb (by omega)
 clear hbx
 go_in
 go_wp2_with fail
 try rw [hW]
 clear y0 y1 y2 y3 y4 hW
 obtain ⟨V, hV⟩ : ∃ V, W.alloc (.cells #[.int .i64 client, .int .i64 seq, .int .i64 token] 3) = V := ⟨_, rfl⟩
 have R5 : Hid (Rd V (W.heap.size + 1) (some ⟨W.heap.size, 0, none⟩) (ivs [client, seq, token])) := zh (by rw [← hV]; exact R4.out)
 have HFV : Hid (Fresh W V) := zh (by rw [← hV]; exact HF4.out)
 rw [hV]
 clear hV R4 HF4
 go_loopw [4] (fun v4 wr => ∃ i : Nat, i ≤ 3 ∧ v4 = .int .i64 (i : Int) ∧ wr = V) (fun v4 _ => 3 - (intOf v4).toNat)
 case atStart => exact ⟨0, by omega, rfl, rfl⟩
 case round =>
  obtain ⟨i, hi, rfl, rfl⟩ := hrel
  have hi0 : (0 : Int) ≤ (i : Int) := by omega
  by_cases hlt : i < 3
  ·have hlti : (i : Int) < 3 := by omega
   obtain ⟨b, o, hA, _, hx⟩ := R5.out.at_ (k := i) (by simpa using hlt)
   injection hA with hA
   injection hA with h1 h2
   subst h1 h2
   rw [List.getElem_map, Nat.zero_add] at hx
   obtain ⟨g1, g2⟩ := HB3.out _ (ze (show i < [client, seq, token].length from hlt))
   generalize [client, seq, token][i]'_ = x at hx g1 g2
   have d1 : decide (x < 0) = false := zb (by omega)
   have d2 : decide (1099511627776 < x) = false := zb (by omega)
   go_wp2_with fail
   go_roundw
   case rel => exact ⟨i + 1, by omega, by go_num, by first | rfl | trivial⟩
   case measure => simp [intOf]; omega
  ·have hlti : ¬ (i : Int) < 3 := by omega
   obtain ⟨y0, y1, y2, y3, y4⟩ := HFI.out wr HFV.out
   have HFZ := zh (HFW.out.trans HFV.out)
   by_cases k1 : kind = 1
   ·subst k1
    go_wp2_with fail
    all_goals (go_ret; exact ⟨by first | rfl | (simp [rqRight, nat_zero_b, *]; done) | (simp_all [rqRight, nat_zero_b]; done), HFZ.out⟩)
   ·have d1 : (kind == 1) = false := by simpa using k1
    by_cases k2 : kind = 2
    ·subst k2
     go_wp2_with fail
     all_goals (go_ret; exact ⟨by first | rfl | (simp [rqRight, nat_zero_b, *]; done) | (simp_all [rqRight, nat_zero_b]; done), HFZ.out⟩)
    ·have d2 : (kind == 2) = false := by simpa using k2
     by_cases k3 : kind = 3
     ·subst k3
      go_wp2_with fail
      all_goals (go_ret; exact ⟨by first | rfl | (simp [rqRight, nat_zero_b, *]; done) | (simp_all [rqRight, nat_zero_b]; done), HFZ.out⟩)
     ·have d3 : (kind == 3) = false := by simpa using k3
      by_cases k4 : kind = 4
      ·subst k4
       go_wp2_with fail
       all_goals (go_ret; exact ⟨by first | rfl | (simp [rqRight, nat_zero_b, *]; done) | (simp_all [rqRight, nat_zero_b]; done), HFZ.out⟩)
      ·have d4 : (kind == 4) = false := by simpa using k4
       have HE : Hid (rqRight kind client seq token n = false) := zh (by unfold rqRight; rw [zk k1, zk k2, zk k3, zk k4])
       go_wp2_with fail
       go_ret
       exact ⟨by rw [HE.out]; rfl, HFZ.out⟩
def reqS (s0 : RS) : Rq × RS :=
 let a1 := rdn 4 s0
 let a2 := rdn 1099511627776 a1.2
 let a3 := rdn 1099511627776 a2.2
 let a4 := rdn 1099511627776 a3.2
 let a5 := rdt 4000 a4.2
 (⟨(a1.1 : Int), (a2.1 : Int), (a3.1 : Int), (a4.1 : Int), a5.1⟩, a5.2)
theorem reqS_ok (s : RS) : RqB (reqS s).1 := by
 refine ⟨rdn_int 4 _, rdn_int 1099511627776 _, rdn_int 1099511627776 _, rdn_int 1099511627776 _, ?_⟩
 have := rdt_le (most := 4000) (by omega) (rdn 1099511627776 (rdn 1099511627776 (rdn 1099511627776 (rdn 4 s).2).2).2).2
 show (rdt 4000 _).1.length ≤ 4000
 omega
def reqA (bs : List UInt8) : Rq × Int := if (wholeS (reqS (bs, false)).2 && rightA (reqS (bs, false)).1) = true then ((reqS (bs, false)).1, 0) else (rq0, 6)
def rz0 : List Value := rcel rq0 none 0
structure E0 (w : World) (g : Nat) (s : RS) (wk : World) : Prop where
 rdr : DocAt wk g g s
 low : w.heap.size < g
 res : Blk wk w.heap.size 67 rz0.toArray
 frm : Fresh w wk
theorem E0.fresh {w wk w' : World} {g : Nat} {s : RS} (h : E0 w g s wk) (F : Fresh wk w') : E0 w g s w' :=
 ⟨h.rdr.fresh F, h.low, h.res.frm F (fun f => f), h.frm.trans F⟩
theorem E0.read {w wk w' : World} {g : Nat} {s t : RS} (h : E0 w g s wk) (hr : DocAt w' g g t) (F : Frm (fun k => k = g) wk w') : E0 w g t w' := by
 obtain ⟨_, hb⟩ := h.rdr.blk
 exact ⟨hr, h.low, h.res.frm F (h.res.apart hb (by decide)), h.frm.trans' F (fun k hk e => by have := h.low; omega)⟩
structure EC (w : World) (g q : Nat) (s : RS) (cs : List Value) (wk : World) : Prop where
 d : E0 w g s wk
 gq : g < q
 box : Blk wk q 67 cs.toArray
theorem EC.fresh {w wk w' : World} {g q : Nat} {s : RS} {cs : List Value} (h : EC w g q s cs wk) (F : Fresh wk w') : EC w g q s cs w' :=
 ⟨h.d.fresh F, h.gq, h.box.frm F (fun f => f)⟩
theorem EC.read {w wk w' : World} {g q : Nat} {s t : RS} {cs : List Value} (h : EC w g q s cs wk) (hr : DocAt w' g g t) (F : Frm (fun k => k = g) wk w') : EC w g q t cs w' :=
 ⟨h.d.read hr F, h.gq, h.box.frm F (by have := h.gq; omega)⟩
theorem EC.set {w wk : World} {g q : Nat} {s : RS} {cs : List Value} (h : EC w g q s cs wk) (i : Nat) (u : Value) : EC w g q s (cs.set i u) (wk.setCell ⟨q, i, none⟩ u) := by
 have h1 := h.gq
 have h2 := h.d.low
 have F : Frm (fun k => k = q) wk (wk.setCell ⟨q, i, none⟩ u) := (za (fun k => k = q) wk).setCell (p := ⟨q, i, none⟩) (fun _ => rfl) u
 refine ⟨⟨h.d.rdr.frm F (by omega) (fun k hk e => by omega), h2, h.d.res.frm F (by omega), h.d.frm.trans' F (fun k hk e => by omega)⟩, h1, ?_⟩
 have hb := h.box.set i u
 rw [List.setIfInBounds_toArray] at hb
 exact hb
theorem E0.num {w wk : World} {g : Nat} {s : RS} (h : E0 w g s wk) (most : Nat) {x : Nat} {t : RS} (hx : rdn most s = (x, t)) :
 Calls Tryz.prog 39 #[.pointer (some ⟨g, 0, none⟩), .int .u64 (most : Int)] wk fun e w' => e = .returned (.int .u64 (x : Int)) ∧ E0 w g t w' := by
 refine (dNum wk g g s most h.rdr).mono ?_
 rintro e w' ⟨h1, h2, h3⟩
 rw [hx] at h1 h2
 exact ⟨h1, h.read h2 h3⟩
def ReqDPost (w : World) (bs : List UInt8) (e : Ending) (w' : World) : Prop :=
 ∃ r code A c, reqA bs = (r, code) ∧ e = .returned (.tuple #[.agg (rcel r A c).toArray, .int .i64 code]) ∧ Sl w' w.heap.size 5 1 (.slice A r.cmd.length c) r.cmd.length (r.cmd.map bv) ∧ Fresh w w'
theorem refDecode19_any (w : World) (A : Option Addr) (cap : Nat) (bs : List UInt8) (hA : Rd w w.heap.size A (bs.map bv)) (hl : bs.length ≤ 1000000) (hc : bs.length ≤ cap) (hm : cap ≤ maxLen) :
 Calls Tryz.prog 22 #[.slice A bs.length cap] w fun e w' => ReqDPost w bs e w' := by
 obtain ⟨W0, hW0⟩ : ∃ W0, w.alloc (.cells #[.int .i64 0, .int .i64 0, .int .i64 0, .int .i64 0, .slice none 0 0] 67) = W0 := ⟨_, rfl⟩
 have F0 : Fresh w W0 := by rw [← hW0]; exact ((za _ w).alloc _)
 have b0 : Blk W0 w.heap.size 67 rz0.toArray := by rw [← hW0]; exact (Blk.new w _ _)
 obtain ⟨g, hg⟩ : ∃ g, g = W0.heap.size := ⟨_, rfl⟩
 obtain ⟨W1, hW1⟩ : ∃ W1, W0.alloc (.cells #[.slice A bs.length cap, .int .i64 0, .bool false] 100) = W1 := ⟨_, rfl⟩
 have F1 : Fresh W0 W1 := by rw [← hW1]; exact ((za _ W0).alloc _)
 have HD1 : Hid (E0 w g (bs, false) W1) := zh (by
  have hgs : w.heap.size < W0.heap.size := b0.lt
  refine ⟨⟨bs, 0, ⟨A, cap, ?_, ?_, hc, hm, zf _⟩, zF _, by omega, fun _ => by simp⟩, by omega, b0.frm F1 (fun f => f), F0.trans F1⟩
  ·rw [← hW1, hg]
   exact Blk.new W0 _ _
  ·have h1 := (hA.fresh (zf _) (F0.trans F1)).more (B' := g) (by omega)
   exact h1)
 obtain ⟨⟨x1, s1⟩, h1⟩ : ∃ y, rdn 4 (bs, false) = y := ⟨_, rfl⟩
 obtain ⟨⟨x2, s2⟩, h2⟩ : ∃ y, rdn 1099511627776 s1 = y := ⟨_, rfl⟩
 obtain ⟨⟨x3, s3⟩, h3⟩ : ∃ y, rdn 1099511627776 s2 = y := ⟨_, rfl⟩
 obtain ⟨⟨x4, s4⟩, h4⟩ : ∃ y, rdn 1099511627776 s3 = y := ⟨_, rfl⟩
 obtain ⟨⟨x5, s5⟩, h5⟩ : ∃ y, rdt 4000 s4 = y := ⟨_, rfl⟩
 have HDS : Hid (reqS (bs, false) = (⟨(x1 : Int), (x2 : Int), (x3 : Int), (x4 : Int), x5⟩, s5)) := zh (by
  unfold reqS
  simp only [h1, h2, h3, h4, h5])
 have HBS : Hid (RqB ⟨(x1 : Int), (x2 : Int), (x3 : Int), (x4 : Int), x5⟩) := zh (by have := reqS_ok (bs, false); rw [HDS.out] at this; exact this)
 have hx1 : x1 ≤ 4 := by have := rdn_le 4 (bs, false); rw [h1] at this; exact this
 have hw1 : IntKind.i64.wrap (x1 : Int) = (x1 : Int) := zm _ (by omega)
 have hx2 : x2 ≤ 1099511627776 := by have := rdn_le 1099511627776 s1; rw [h2] at this; exact this
 have hw2 : IntKind.i64.wrap (x2 : Int) = (x2 : Int) := zm _ (by omega)
 have hx3 : x3 ≤ 1099511627776 := by have := rdn_le 1099511627776 s2; rw [h3] at this; exact this
 have hw3 : IntKind.i64.wrap (x3 : Int) = (x3 : Int) := zm _ (by omega)
 have hx4 : x4 ≤ 1099511627776 := by have := rdn_le 1099511627776 s3; rw [h4] at this; exact this
 have hw4 : IntKind.i64.wrap (x4 : Int) = (x4 : Int) := zm _ (by omega)
 have H1 := zh h1
 have H2 := zh h2
 have H3 := zh h3
 have H4 := zh h4
 have H5 := zh h5
 clear hA F0 F1 b0 h1 h2 h3 h4 h5
 go_in
 go_upto_region 2 with fail
 try rw [hW0]
 rw [← hg]
 try rw [hW1]
 clear hW0 hW1 hg
 go_wp2_with fail
 refine (HD1.out.num 4 H1.out).mono ?_
 rintro e w1 ⟨rfl, ha⟩
 have HDa1 := zh ha
 clear ha
 go_wp2_with fail
 refine (HDa1.out.num 1099511627776 H2.out).mono ?_
 rintro e w2 ⟨rfl, ha⟩
 have HDa2 := zh ha
 clear ha
 go_wp2_with fail
 refine (HDa2.out.num 1099511627776 H3.out).mono ?_
 rintro e w3 ⟨rfl, ha⟩
 have HDa3 := zh ha
 clear ha
 go_wp2_with fail
 refine (HDa3.out.num 1099511627776 H4.out).mono ?_
 rintro e w4 ⟨rfl, ha⟩
 have HDa4 := zh ha
 obtain ⟨W5, hW5⟩ : ∃ W, w4.alloc (.cells #[.int .i64 0, .int .i64 0, .int .i64 0, .int .i64 0, .slice none 0 0] 67) = W := ⟨_, rfl⟩
 obtain ⟨q, hq⟩ : ∃ q, w4.heap.size = q := ⟨_, rfl⟩
 have HD5 : Hid (E0 w g s4 W5) := zh (by rw [← hW5]; exact ha.fresh ((za _ w4).alloc _))
 have HQ5 : Hid (EC w g q s4 rz0 W5) := zh ⟨HD5.out, by rw [← hq]; exact ha.rdr.lt, by rw [← hW5, ← hq]; exact Blk.new w4 _ _⟩
 obtain ⟨zs, hzs⟩ : ∃ zs : List Value, zs = [.int .i64 (x1 : Int), .int .i64 (x2 : Int), .int .i64 (x3 : Int), .int .i64 (x4 : Int), .slice none 0 0] := ⟨_, rfl⟩
 have HTH : Hid (W5.there q 0 zs.toArray.size) := zh (by rw [hzs]; exact HQ5.out.box.there rfl)
 have HI : Hid ((Tryz.prog.info? 67).map (·.size) = some zs.toArray.size) := zh (by rw [hzs]; kernel_rfl)
 have HO : Hid (zs.toArray.all (·.oneCell') = true) := zh (by rw [hzs]; kernel_rfl)
 have HZS := zh hzs
 obtain ⟨W, hW⟩ : ∃ W, W5.setCells q 0 zs.toArray.toList = W := ⟨_, rfl⟩
 have FW : Frm (fun j => j = q) W5 W := by
  have := jE q zs.toArray.toList 0 W5
  have e : (fun k => q = k) = (fun k => k = q) := by funext k; exact propext eq_comm
  rw [e, hW] at this
  exact this
 have HDW : Hid (EC w g q s4 zs W) := zh (by
  have h1 := HQ5.out.gq
  have h2 := HQ5.out.d.low
  refine ⟨⟨HD5.out.rdr.frm FW (by omega) (fun k hk e => by omega), h2, HD5.out.res.frm FW (by omega), HD5.out.frm.trans' FW (fun k hk e => by omega)⟩, h1, ?_⟩
  rw [← hW]
  exact jG HQ5.out.box (by rw [hzs]; rfl))
 clear ha HD1 HDa1 HDa2 HDa3 HDa4 FW hzs
 go_wp2_with (first | (refine zd rfl 67 (.tmp 5) (.tmp 23) rfl q 0 zs.toArray rfl (by rw [HZS.out]; rfl) HTH.out HI.out HO.out ?_) | (rw [hW5, hq]; refine zd rfl 67 (.tmp 5) (.tmp 23) rfl q 0 zs.toArray rfl (by rw [HZS.out]; rfl) HTH.out HI.out HO.out ?_) | (rw [hq, hW5]; refine zd rfl 67 (.tmp 5) (.tmp 23) rfl q 0 zs.toArray rfl (by rw [HZS.out]; rfl) HTH.out HI.out HO.out ?_) | (rw [hW5]; refine zd rfl 67 (.tmp 5) (.tmp 23) rfl q 0 zs.toArray rfl (by rw [HZS.out]; rfl) HTH.out HI.out HO.out ?_) | (rw [hq]; refine zd rfl 67 (.tmp 5) (.tmp 23) rfl q 0 zs.toArray rfl (by rw [HZS.out]; rfl) HTH.out HI.out HO.out ?_))
 try rw [hW]
 rw [HZS.out] at HDW
 have HTX := zh (dText W g g s4 4000 (by omega) HDW.out.d.rdr)
 rw [H5.out] at HTX
 clear hW hW5 hq hw1 hw2 hw3 hw4 HTH HI HO HZS HQ5 HD5
 refine HTX.out.mono ?_
 rintro e w6 ⟨v6, rfl, hs6, hr6, f6⟩
 obtain ⟨A5, c5, rfl, _⟩ := hs6.shape
 have HD6 := zh (HDW.out.read hr6 f6)
 have y6 : w6.cell? ⟨q, 4, none⟩ = some (.slice none 0 0) := HD6.out.box.cell 4
 have z6 : w6.frozen? ⟨q, 4, none⟩ = false := HD6.out.box.frozen 4
 obtain ⟨V6, hV6⟩ : ∃ V, w6.setCell ⟨q, 4, none⟩ (.slice A5 x5.length c5) = V := ⟨_, rfl⟩
 have HS6 : Hid (Sl V6 (q + 1) 5 1 (.slice A5 x5.length c5) x5.length (x5.map bv)) := zh (by
  have h0 := hs6.less (show q + 1 ≤ W.heap.size from HDW.out.box.lt)
  rw [← hV6]
  exact h0.frm ((za (fun k => k = q) w6).setCell (p := ⟨q, 4, none⟩) (fun _ => rfl) _) (fun k' hk' e => by have := (h0.lt _ hk').1; omega))
 obtain ⟨cz, hcz⟩ : ∃ cz : List Value, cz = rcel ⟨(x1 : Int), (x2 : Int), (x3 : Int), (x4 : Int), x5⟩ A5 c5 := ⟨_, rfl⟩
 have HDV : Hid (EC w g q s5 cz V6) := zh (by rw [← hV6, hcz]; exact HD6.out.set 4 _)
 have HCE := zh hcz
 have HCI : Hid ((Tryz.prog.info? 67).map (·.size) = some cz.length) := zh (by rw [hcz]; kernel_rfl)
 have HCJ : Hid ((Tryz.prog.info? 67).map (·.size) = some cz.toArray.size) := zh (by rw [hcz]; kernel_rfl)
 have HON : Hid (cz.toArray.all (·.oneCell') = true) := zh (by rw [hcz]; kernel_rfl)
 have HSI : Hid (cz.toArray.size = rz0.toArray.size) := zh (by rw [hcz]; rfl)
 have HWH := zh (dWhole V6 g g s5 HDV.out.d.rdr)
 have hqw : w.heap.size < q := by have := HDV.out.gq; have := HDV.out.d.low; omega
 clear hs6 hr6 f6 HD6 HDW hcz HTX
 go_wp2_with fail
 try rw [hV6]
 clear hV6 y6 z6
 refine HWH.out.mono ?_
 rintro e w8 ⟨rfl, nn, hw8⟩
 have f8 : Fresh V6 w8 := by rw [hw8]; exact (za _ V6).drewN nn
 have HD8 := zh (HDV.out.fresh f8)
 have HS8 := zh (HS6.out.fresh f8)
 have HRI : Hid (Calls Tryz.prog 42 #[.agg cz.toArray] w8 fun e w'' => e = .returned (.bool (rightA ⟨(x1 : Int), (x2 : Int), (x3 : Int), (x4 : Int), x5⟩)) ∧ Fresh w8 w'') := zh (by
  rw [HCE.out]
  exact refRight19_any w8 _ HBS.out A5 c5)
 have HCR : Hid (w8.rangeAt q 0 cz) := zh HD8.out.box.range
 obtain ⟨wh, hwh⟩ : ∃ b, b = wholeS s5 := ⟨_, rfl⟩
 rw [← hwh]
 have HWW := zh hwh
 obtain ⟨kb, hkb⟩ : ∃ b, b = rightA ⟨(x1 : Int), (x2 : Int), (x3 : Int), (x4 : Int), x5⟩ := ⟨_, rfl⟩
 have HKB := zh hkb
 rw [← hkb] at HRI
 clear hw8 f8 hwh hkb
 go_wp2_with (with_reducible refine zM rfl 67 (.tmp 5) rfl q 0 rfl cz _ HCR.out Tryz.underlying67 rfl HCI.out ?_)
 refine HRI.out.mono ?_
 rintro e w9 ⟨rfl, f9⟩
 have HD9 := zh (HD8.out.fresh f9)
 have HS9 := zh (HS8.out.fresh f9)
 have HCR9 : Hid (w9.rangeAt q 0 cz) := zh HD9.out.box.range
 clear f9 HCR
 have HDEC : Hid (reqA bs = if (wh && kb) = true then (⟨(x1 : Int), (x2 : Int), (x3 : Int), (x4 : Int), x5⟩, 0) else (rq0, 6)) := zh (by unfold reqA; rw [HDS.out]; dsimp only; rw [HWW.out, HKB.out])
 cases wh with
 | false =>
  rw [Bool.false_and] at HDEC
  rw [zk (by decide)] at HDEC
  obtain ⟨zs, hzs⟩ : ∃ zs : List Value, zs = rz0 := ⟨_, rfl⟩
  have HZS := zh hzs
  have HZJ : Hid ((Tryz.prog.info? 67).map (·.size) = some zs.toArray.size) := zh (by rw [hzs]; kernel_rfl)
  have HZI : Hid ((Tryz.prog.info? 67).map (·.size) = some zs.length) := zh (by rw [hzs]; kernel_rfl)
  have HZO : Hid (zs.toArray.all (·.oneCell') = true) := zh (by rw [hzs]; kernel_rfl)
  have HTH : Hid (w9.there w.heap.size 0 zs.toArray.size) := zh (by rw [hzs]; exact HD9.out.d.res.there rfl)
  clear hzs
  go_wp2_with (refine zd rfl 67 (.tmp 2) (.tmp 37) rfl w.heap.size 0 zs.toArray rfl (by rw [HZS.out]; rfl) HTH.out HZJ.out HZO.out ?_)
  have hra : (w9.setCells w.heap.size 0 zs).rangeAt w.heap.size 0 zs := World.rangeAt_setCells_same w9 w.heap.size 0 zs (by have := HTH.out; simpa using this)
  have hld := run_loadVar_mid (P := Tryz.prog) (w9.setCells w.heap.size 0 zs) w.heap.size 0 67 zs _ hra Tryz.underlying67 rfl HZI.out
  have hfc := jE w.heap.size zs 0 w9
  have HFZ : Fresh w (w9.setCells w.heap.size 0 zs) := HD9.out.d.frm.trans' hfc (fun k hk e => by omega)
  refine zi (v := .tuple #[.agg zs.toArray, .int .i64 6]) ?_ rfl ⟨rq0, 6, none, 0, HDEC.out, by rw [HZS.out]; rfl, Sl.nil _ _ _ _, HFZ⟩
  rw [results_cell_tmp Tryz.results22]
  show (((asAddr (.pointer (some ⟨w.heap.size, 0, none⟩))).run Tryz.prog (w9.setCells w.heap.size 0 zs)).andThen fun a w₁ => ((loadVar 67 a).run Tryz.prog w₁).andThen fun v w₂ => Result.ok (Value.tuple #[v, Value.int .i64 6]) w₂) = _
  simp only [asAddr, Sem.run_pure, Result.andThen_ok, hld]
 | true =>
  cases kb with
  | false =>
   rw [zk (by decide)] at HDEC
   obtain ⟨zs, hzs⟩ : ∃ zs : List Value, zs = rz0 := ⟨_, rfl⟩
   have HZS := zh hzs
   have HZJ : Hid ((Tryz.prog.info? 67).map (·.size) = some zs.toArray.size) := zh (by rw [hzs]; kernel_rfl)
   have HZI : Hid ((Tryz.prog.info? 67).map (·.size) = some zs.length) := zh (by rw [hzs]; kernel_rfl)
   have HZO : Hid (zs.toArray.all (·.oneCell') = true) := zh (by rw [hzs]; kernel_rfl)
   have HTH : Hid (w9.there w.heap.size 0 zs.toArray.size) := zh (by rw [hzs]; exact HD9.out.d.res.there rfl)
   clear hzs
   go_wp2_with (refine zd rfl 67 (.tmp 2) (.tmp 37) rfl w.heap.size 0 zs.toArray rfl (by rw [HZS.out]; rfl) HTH.out HZJ.out HZO.out ?_)
   have hra : (w9.setCells w.heap.size 0 zs).rangeAt w.heap.size 0 zs := World.rangeAt_setCells_same w9 w.heap.size 0 zs (by have := HTH.out; simpa using this)
   have hld := run_loadVar_mid (P := Tryz.prog) (w9.setCells w.heap.size 0 zs) w.heap.size 0 67 zs _ hra Tryz.underlying67 rfl HZI.out
   have hfc := jE w.heap.size zs 0 w9
   have HFZ : Fresh w (w9.setCells w.heap.size 0 zs) := HD9.out.d.frm.trans' hfc (fun k hk e => by omega)
   refine zi (v := .tuple #[.agg zs.toArray, .int .i64 6]) ?_ rfl ⟨rq0, 6, none, 0, HDEC.out, by rw [HZS.out]; rfl, Sl.nil _ _ _ _, HFZ⟩
   rw [results_cell_tmp Tryz.results22]
   show (((asAddr (.pointer (some ⟨w.heap.size, 0, none⟩))).run Tryz.prog (w9.setCells w.heap.size 0 zs)).andThen fun a w₁ => ((loadVar 67 a).run Tryz.prog w₁).andThen fun v w₂ => Result.ok (Value.tuple #[v, Value.int .i64 6]) w₂) = _
   simp only [asAddr, Sem.run_pure, Result.andThen_ok, hld]
  | true =>
   rw [zl (by decide)] at HDEC
   have HTH : Hid (w9.there w.heap.size 0 cz.toArray.size) := zh (HD9.out.d.res.there HSI.out)
   go_wp2_with (first | (with_reducible refine zM rfl 67 (.tmp 5) rfl q 0 rfl cz _ HCR9.out Tryz.underlying67 rfl HCI.out ?_) | (with_reducible refine zd rfl 67 (.tmp 2) (.tmp 38) rfl w.heap.size 0 cz.toArray rfl rfl HTH.out HCJ.out HON.out ?_))
   have hra : (w9.setCells w.heap.size 0 cz).rangeAt w.heap.size 0 cz := World.rangeAt_setCells_same w9 w.heap.size 0 cz (by have := HTH.out; simpa using this)
   have hld := run_loadVar_mid (P := Tryz.prog) (w9.setCells w.heap.size 0 cz) w.heap.size 0 67 cz _ hra Tryz.underlying67 rfl HCI.out
   have hfc := jE w.heap.size cz 0 w9
   have HFZ : Fresh w (w9.setCells w.heap.size 0 cz) := HD9.out.d.frm.trans' hfc (fun k hk e => by omega)
   have hs2 := HS9.out.frm hfc (fun k' hk' e => by have h1 := (HS9.out.lt _ hk').1; omega)
   refine zi (v := .tuple #[.agg cz.toArray, .int .i64 0]) ?_ rfl ⟨_, 0, A5, c5, HDEC.out, by rw [← HCE.out], hs2.less (by omega), HFZ⟩
   rw [results_cell_tmp Tryz.results22]
   show (((asAddr (.pointer (some ⟨w.heap.size, 0, none⟩))).run Tryz.prog (w9.setCells w.heap.size 0 cz)).andThen fun a w₁ => ((loadVar 67 a).run Tryz.prog w₁).andThen fun v w₂ => Result.ok (Value.tuple #[v, Value.int .i64 0]) w₂) = _
   simp only [asAddr, Sem.run_pure, Result.andThen_ok, hld]
end
end Go.Proofs.YtnmokpbomeamfaaGreat

/- Proved here, for the statement ClientOnceSaid: laws that its walk leans on. It holds with no condition. (Put together and shortened by a program out of many texts: On64, Bss, On65, ReadMath2.) -/
import Derived.Test.YtnmokpbomeamfaaGreatZ24
set_option linter.unusedVariables false
set_option maxRecDepth 100000
set_option maxHeartbeats 64000000
namespace Go.Proofs.YtnmokpbomeamfaaGreat
section
open Go.RowKit
theorem index_no (w : World) (A : Option Addr) (cap : Nat) (l : List Int) (v : Int) (hA : Rd w w.heap.size A (l.map civ)) (hl : l.length ≤ 1000) (hv : ∀ z ∈ l, z ≠ v) :
 Calls Tryz.prog 28 #[.slice A l.length cap, .int .i64 v] w fun e w' => e = .returned (.int .i64 (-1)) ∧ w' = w := by
 have HV := zh hv
 have HA := zh hA
 clear hA hv
 go_in
 go_wp2_with fail
 go_loopw [8] (fun v8 wr => ∃ k : Nat, k ≤ l.length ∧ v8 = .int .i64 (k : Int) ∧ wr = w) (fun v8 _ => l.length - (intOf v8).toNat)
 case atStart => exact ⟨0, by omega, rfl, rfl⟩
 case round =>
  obtain ⟨k, hk, rfl, hwr⟩ := hrel
  replace hwr := hwr.symm
  subst hwr
  have hk0 : (0 : Int) ≤ (k : Int) := by omega
  by_cases hlt : k < l.length
  ·have hlti : (k : Int) < (l.length : Int) := by omega
   have d1 : decide ((k : Int) < (l.length : Int)) = true := zc hlti
   obtain ⟨b, o, rfl, _, hx⟩ := HA.out.at_ (k := k) (by simpa using hlt)
   rw [List.getElem_map] at hx
   unfold civ at hx
   have hne := HV.out _ (ze hlt)
   generalize l[k] = z at hx hne
   have d2 : (v == z) = false := by rw [zC]; exact fun e => hne e.symm
   have d3 : ¬ v = z := fun e => hne e.symm
   go_wp2_with fail
   go_roundw
   case rel => exact ⟨k + 1, by omega, by go_num, by first | rfl | trivial⟩
   case measure => simp [intOf]; omega
  ·have hlti : ¬ (k : Int) < (l.length : Int) := by omega
   have d1 : decide ((k : Int) < (l.length : Int)) = false := zb hlti
   go_wp2_with fail
   go_ret
   exact ⟨rfl, rfl⟩
def dcel (token leader code : Int) (A : Option Addr) (n c : Nat) : Array Value := #[.int .i64 token, .int .i64 leader, .int .i64 code, .slice A n c]
theorem ask_map {w : World} {B : Nat} {L : CL} {l : List Int} {ks rs : List BsM} {x : CSt} {op : List Int} (h : Cc w B L l ks rs x op) (z : Int) (hz : -9223372036854775808 ≤ z ∧ z ≤ 9223372036854775807) : (Instr.lookup 55 (.map (some L.mb)) (.int .i64 z) false).run Tryz.prog w = .ok (.bool (op.contains z)) w := by
 obtain ⟨n, D, ho, _, hD⟩ := h.om
 exact OM.ask ho (Maps.int_keyed Tryz.underlying3) Tryz.underlying55 Tryz.underlying4 rfl (Maps.keyOf_int_mk Tryz.underlying3 (by simpa [Lit.wf, IntKind.min, IntKind.max, IntKind.signed, IntKind.bits] using hz)) (hD z)
theorem hear_no (w : World) (B : Nat) (L : CL) (l : List Int) (ks rs : List BsM) (x : CSt) (op : List Int) (h : Cc w B L l ks rs x op) (token : Int) (ht : 0 ≤ token ∧ token ≤ 1000000000) (leader code : Int) (A : Option Addr) (n c : Nat) (hno : x.over = true ∨ op.contains token = false) :
 Calls Tryz.prog 10 #[.pointer (some ⟨L.b, 0, none⟩), .agg (dcel token leader code A n c)] w fun e w' => e = .returned (.bool false) ∧ Fresh w w' := by
 obtain ⟨W, hW⟩ : ∃ W, w.alloc (.cells (dcel token leader code A n c) 45) = W := ⟨_, rfl⟩
 have HFW : Hid (Fresh w W) := zh (by rw [← hW]; exact jC _ _)
 have HD : Hid (Blk W w.heap.size 45 (dcel token leader code A n c)) := zh (by rw [← hW]; exact Blk.new _ _ _)
 have HC := zh (h.fresh HFW.out)
 unfold dcel at hW HD ⊢
 obtain ⟨ov, hov⟩ : ∃ b, b = x.over := ⟨_, rfl⟩
 obtain ⟨inn, hin⟩ : ∃ b, b = op.contains token := ⟨_, rfl⟩
 have HS : Hid (∀ w', Fresh W w' → w'.cell? ⟨L.b, 10, none⟩ = some (.bool ov) ∧ w'.cell? ⟨L.b, 8, none⟩ = some (.map (some L.mb)) ∧ w'.cell? ⟨w.heap.size, 0, none⟩ = some (.int .i64 token) ∧ (Instr.lookup 55 (.map (some L.mb)) (.int .i64 token) false).run Tryz.prog w' = .ok (.bool inn) w') := zh fun w' F => ⟨by have k := (HC.out.fresh F).blk.cell 10; rw [hov]; exact k, (HC.out.fresh F).blk.cell 8, (HD.out.frm F (fun f => f)).cell 0, by have k := ask_map (HC.out.fresh F) token (by omega); rw [← hin] at k; exact k⟩
 rw [← hov, ← hin] at hno
 clear h hov hin
 cases ov with
 | true =>
  go_in
  go_upto_region 1 with fail
  try rw [hW]
  clear hW
  refine zj (S := (fun w' => w'.cell? ⟨L.b, 10, none⟩ = some (.bool true) ∧ w'.cell? ⟨L.b, 8, none⟩ = some (.map (some L.mb)) ∧ w'.cell? ⟨w.heap.size, 0, none⟩ = some (.int .i64 token) ∧ (Instr.lookup 55 (.map (some L.mb)) (.int .i64 token) false).run Tryz.prog w' = .ok (.bool inn) w')) (by kernel_rfl) (HS.out _ (za _ _).drew) (fun hHeld => ?_)
  iterate 5 ((first | refine ztn (v := ?_) (zo rfl) ?_ | refine ztz (v := ?_) (zo rfl) ?_); try simp only [Act.put, zT, zZ, zS])
  refine wpAnyH_take (i := 5) (v := undef) (zo rfl) (by kernel_rfl) (by kernel_rfl) (by kernel_rfl) (fun _ _ _ h => h) (Or.inr ⟨by rfl, rfl⟩) (by assumption) ?_
  try simp only [Act.put, zT, zZ, zS]
  refine wpAnyH_take (i := 6) (v := undef) (zo rfl) (by kernel_rfl) (by kernel_rfl) (by kernel_rfl) (fun _ _ _ h => h) (Or.inr ⟨by rfl, rfl⟩) (by assumption) ?_
  try simp only [Act.put, zT, zZ, zS]
  refine wpAnyH_take (i := 7) (v := undef) (zo rfl) (by kernel_rfl) (by kernel_rfl) (by kernel_rfl) (fun _ _ _ h => h) (Or.inr ⟨by rfl, rfl⟩) (by assumption) ?_
  try simp only [Act.put, zT, zZ, zS]
  refine wpAnyH_take (i := 8) (v := undef) (zo rfl) (by kernel_rfl) (by kernel_rfl) (by kernel_rfl) (fun _ _ _ h => h) (Or.inr ⟨by rfl, rfl⟩) (by assumption) ?_
  try simp only [Act.put, zT, zZ, zS]
  refine wpAnyH_take (i := 9) (v := undef) (zo rfl) (by kernel_rfl) (by kernel_rfl) (by kernel_rfl) (fun _ _ _ h => h) (Or.inr ⟨by rfl, rfl⟩) (by assumption) ?_
  try simp only [Act.put, zT, zZ, zS]
  refine wpAnyH_take (i := 10) (v := undef) (zo rfl) (by kernel_rfl) (by kernel_rfl) (by kernel_rfl) (fun _ _ _ h => h) (Or.inr ⟨by rfl, rfl⟩) (by assumption) ?_
  try simp only [Act.put, zT, zZ, zS]
  refine wpAnyH_take (i := 11) (v := undef) (zo rfl) (by kernel_rfl) (by kernel_rfl) (by kernel_rfl) (fun _ _ _ h => h) (Or.inr ⟨by rfl, rfl⟩) (by assumption) ?_
  try simp only [Act.put, zT, zZ, zS]
  refine wpAnyH_take (i := 12) (v := undef) (zo rfl) (by kernel_rfl) (by kernel_rfl) (by kernel_rfl) (fun _ _ _ h => h) (Or.inr ⟨by rfl, rfl⟩) (by assumption) ?_
  try simp only [Act.put, zT, zZ, zS]
  iterate 2 (refine ztn (v := ?_) (zo rfl) ?_; try simp only [Act.put, zT, zZ, zS])
  refine wpAnyH_done (by kernel_rfl) ?_ _
  go_wp2_with fail
  go_ret
  exact ⟨rfl, HFW.out.drew⟩
 | false =>
  obtain rfl : inn = false := by rcases hno with e | e; cases e; exact e
  go_in
  go_upto_region 1 with fail
  try rw [hW]
  clear hW
  refine zj (S := (fun w' => w'.cell? ⟨L.b, 10, none⟩ = some (.bool false) ∧ w'.cell? ⟨L.b, 8, none⟩ = some (.map (some L.mb)) ∧ w'.cell? ⟨w.heap.size, 0, none⟩ = some (.int .i64 token) ∧ (Instr.lookup 55 (.map (some L.mb)) (.int .i64 token) false).run Tryz.prog w' = .ok (.bool false) w')) (by kernel_rfl) (HS.out _ (za _ _).drew) (fun hHeld => ?_)
  iterate 15 ((first | refine ztn (v := ?_) (zo rfl) ?_ | refine ztz (v := ?_) (zo rfl) ?_); try simp only [Act.put, zT, zZ, zS])
  refine wpAnyH_done (by kernel_rfl) ?_ _
  go_wp2_with fail
  go_ret
  exact ⟨rfl, HFW.out.drew⟩
theorem hear_refused (w : World) (B : Nat) (L : CL) (l : List Int) (ks rs : List BsM) (x : CSt) (op : List Int) (h : Cc w B L l ks rs x op) (token : Int) (ht : 0 ≤ token ∧ token ≤ 1000000000) (hov : x.over = false) (hin : op.contains token = true) (A : Option Addr) (n c : Nat) (hl : l.length ≤ 15) (hl0 : ∀ z ∈ l, z ≠ 0) (ha : x.a ≤ 100) :
 Calls Tryz.prog 10 #[.pointer (some ⟨L.b, 0, none⟩), .agg (dcel token 0 7 A n c)] w fun e w' => e = .returned (.bool true) ∧ Cc w' B L l ks rs { x with a := (x.a + 1) % l.length, wt := 0 } op ∧ Frm (CS L rs.length) w w' := by
 obtain ⟨W, hW⟩ : ∃ W, w.alloc (.cells (dcel token 0 7 A n c) 45) = W := ⟨_, rfl⟩
 have HFW : Hid (Fresh w W) := zh (by rw [← hW]; exact jC _ _)
 have HD : Hid (Blk W w.heap.size 45 (dcel token 0 7 A n c)) := zh (by rw [← hW]; exact Blk.new _ _ _)
 have HC := zh (h.fresh HFW.out)
 unfold dcel at hW HD ⊢
 have HS : Hid (∀ w', Fresh W w' → w'.cell? ⟨L.b, 10, none⟩ = some (.bool false) ∧ w'.cell? ⟨L.b, 8, none⟩ = some (.map (some L.mb)) ∧ w'.cell? ⟨w.heap.size, 0, none⟩ = some (.int .i64 token) ∧ (Instr.lookup 55 (.map (some L.mb)) (.int .i64 token) false).run Tryz.prog w' = .ok (.bool true) w') := zh fun w' F => ⟨by have k := (HC.out.fresh F).blk.cell 10; rw [← hov]; exact k, (HC.out.fresh F).blk.cell 8, (HD.out.frm F (fun f => f)).cell 0, by have k := ask_map (HC.out.fresh F) token (by omega); rw [hin] at k; exact k⟩
 clear h
 go_in
 go_upto_region 1 with fail
 try rw [hW]
 clear hW
 refine zj (S := (fun w' => w'.cell? ⟨L.b, 10, none⟩ = some (.bool false) ∧ w'.cell? ⟨L.b, 8, none⟩ = some (.map (some L.mb)) ∧ w'.cell? ⟨w.heap.size, 0, none⟩ = some (.int .i64 token) ∧ (Instr.lookup 55 (.map (some L.mb)) (.int .i64 token) false).run Tryz.prog w' = .ok (.bool true) w')) (by kernel_rfl) (HS.out _ (za _ _).drew) (fun hHeld => ?_)
 iterate 15 ((first | refine ztn (v := ?_) (zo rfl) ?_ | refine ztz (v := ?_) (zo rfl) ?_); try simp only [Act.put, zT, zZ, zS])
 refine wpAnyH_done (by kernel_rfl) ?_ _
 obtain ⟨V, hV⟩ : ∃ V, W.drew = V := ⟨_, rfl⟩
 rw [hV]
 have HFV : Hid (Fresh W V) := zh (by rw [← hV]; exact (za _ W).drew)
 have HCV := zh (HC.out.fresh HFV.out)
 have HDV := zh (HD.out.frm HFV.out (fun f => f))
 have t2 : V.cell? ⟨w.heap.size, 2, none⟩ = some (.int .i64 7) := HDV.out.cell 2
 clear hV
 go_upto_region 8 with fail
 have HIN := zh (index_no V.drew L.A L.nc l 0 (HCV.out.fresh (za _ V).drew).sl.rd (by omega) hl0)
 have HS8 : Hid (∀ w', Fresh V w' → w'.cell? ⟨L.b, 1, none⟩ = some (.slice L.A l.length L.nc) ∧ w'.cell? ⟨w.heap.size, 1, none⟩ = some (.int .i64 0)) := zh fun w' F => ⟨(HCV.out.fresh F).blk.cell 1, (HDV.out.frm F (fun f => f)).cell 1⟩
 refine zj (S := (fun w' => w'.cell? ⟨L.b, 1, none⟩ = some (.slice L.A l.length L.nc) ∧ w'.cell? ⟨w.heap.size, 1, none⟩ = some (.int .i64 0))) (by kernel_rfl) (HS8.out _ (za _ _).drew) (fun hHeld => ?_)
 iterate 6 ((first | refine ztn (v := ?_) (zo rfl) ?_ | refine ztz (v := ?_) (zo rfl) ?_); try simp only [Act.put, zT, zZ, zS])
 refine zr1 6 (zo rfl) (fun K hK => ?_)
 go_simp
 refine (HIN.out).mono ?_
 rintro e Z ⟨rfl, hz⟩
 replace hz := hz.symm
 subst hz
 refine hK.out _ _ (HS8.out _ (za _ _).drew) (fun hHeld => ?_)
 clear hK K
 try simp only [Act.put, zT, zZ, zS]
 (refine ztn (v := ?_) (zo rfl) ?_; try simp only [Act.put, zT, zZ, zS])
 refine wpAnyH_done (by kernel_rfl) ?_ _
 obtain ⟨Y, hY⟩ : ∃ Y, V.drew = Y := ⟨_, rfl⟩
 rw [hY]
 have HFY : Hid (Fresh V Y) := zh (by rw [← hY]; exact (za _ V).drew)
 have HCY := zh (HCV.out.fresh HFY.out)
 have y3 : Y.cell? ⟨L.b, 3, none⟩ = some (.int .i64 (x.a : Int)) := HCY.out.blk.cell 3
 have HAK := zh (ask_c Y B L l ks rs x op HCY.out (x.a + 1) (by omega) hl)
 have ha0 : (0 : Int) ≤ (x.a : Int) := by omega
 have ha1 : (x.a : Int) ≤ 100 := by omega
 clear hY t2
 go_wp2_with fail
 refine HAK.out.mono ?_
 rintro e Z ⟨rfl, hcz, hfz⟩
 have HCZ := zh hcz
 have HFZ := zh hfz
 clear hcz hfz y3
 go_wp2_with fail
 go_ret
 exact ⟨rfl, HCZ.out, (Fresh.frm ((HFW.out.trans HFV.out).trans HFY.out)).trans HFZ.out⟩
theorem hear_told (w : World) (B : Nat) (L : CL) (l : List Int) (ks rs : List BsM) (x : CSt) (op : List Int) (h : Cc w B L l ks rs x op) (token : Int) (ht : 0 ≤ token ∧ token ≤ 1000000000) (hov : x.over = false) (hin : op.contains token = true) (A : Option Addr) (n c : Nat) (R : World → Prop)
 (hT : ∀ V, Fresh w V → Calls Tryz.prog 26 #[.pointer (some ⟨L.b, 0, none⟩), .slice A n c] V fun e w' => e = .returned (.bool true) ∧ R w') :
 Calls Tryz.prog 10 #[.pointer (some ⟨L.b, 0, none⟩), .agg (dcel token 0 0 A n c)] w fun e w' => e = .returned (.bool true) ∧ R w' := by
 obtain ⟨W, hW⟩ : ∃ W, w.alloc (.cells (dcel token 0 0 A n c) 45) = W := ⟨_, rfl⟩
 have HFW : Hid (Fresh w W) := zh (by rw [← hW]; exact jC _ _)
 have HD : Hid (Blk W w.heap.size 45 (dcel token 0 0 A n c)) := zh (by rw [← hW]; exact Blk.new _ _ _)
 have HC := zh (h.fresh HFW.out)
 unfold dcel at hW HD ⊢
 have HS : Hid (∀ w', Fresh W w' → w'.cell? ⟨L.b, 10, none⟩ = some (.bool false) ∧ w'.cell? ⟨L.b, 8, none⟩ = some (.map (some L.mb)) ∧ w'.cell? ⟨w.heap.size, 0, none⟩ = some (.int .i64 token) ∧ (Instr.lookup 55 (.map (some L.mb)) (.int .i64 token) false).run Tryz.prog w' = .ok (.bool true) w') := zh fun w' F => ⟨by have k := (HC.out.fresh F).blk.cell 10; rw [← hov]; exact k, (HC.out.fresh F).blk.cell 8, (HD.out.frm F (fun f => f)).cell 0, by have k := ask_map (HC.out.fresh F) token (by omega); rw [hin] at k; exact k⟩
 have HTT := zh hT
 clear h hT
 go_in
 go_upto_region 1 with fail
 try rw [hW]
 clear hW
 refine zj (S := (fun w' => w'.cell? ⟨L.b, 10, none⟩ = some (.bool false) ∧ w'.cell? ⟨L.b, 8, none⟩ = some (.map (some L.mb)) ∧ w'.cell? ⟨w.heap.size, 0, none⟩ = some (.int .i64 token) ∧ (Instr.lookup 55 (.map (some L.mb)) (.int .i64 token) false).run Tryz.prog w' = .ok (.bool true) w')) (by kernel_rfl) (HS.out _ (za _ _).drew) (fun hHeld => ?_)
 iterate 15 ((first | refine ztn (v := ?_) (zo rfl) ?_ | refine ztz (v := ?_) (zo rfl) ?_); try simp only [Act.put, zT, zZ, zS])
 refine wpAnyH_done (by kernel_rfl) ?_ _
 obtain ⟨V, hV⟩ : ∃ V, W.drew = V := ⟨_, rfl⟩
 rw [hV]
 have HFV : Hid (Fresh W V) := zh (by rw [← hV]; exact (za _ W).drew)
 have HDV := zh (HD.out.frm HFV.out (fun f => f))
 have t2 : V.cell? ⟨w.heap.size, 2, none⟩ = some (.int .i64 0) := HDV.out.cell 2
 have t3 : V.cell? ⟨w.heap.size, 3, none⟩ = some (.slice A n c) := HDV.out.cell 3
 clear hV
 go_wp2_with fail
 refine (HTT.out V (HFW.out.trans HFV.out)).mono ?_
 rintro e Z ⟨rfl, hr⟩
 have HR := zh hr
 clear hr t2 t3
 go_wp2_with fail
 go_ret
 exact ⟨rfl, HR.out⟩
abbrev Bs : Type := Option Addr × Nat × List UInt8
def bsv (b : Bs) : Value := .slice b.1 b.2.2.length b.2.1
structure IsBs (w : World) (B : Nat) (b : Bs) : Prop where
 rd : Rd w B b.1 (b.2.2.map bv)
 le : b.2.2.length ≤ b.2.1
 most : b.2.1 ≤ maxLen
 reach : b.2.1 ≤ 140737488351232
structure IsBss (w : World) (B : Nat) (A : Option Addr) (cap : Nat) (l : List Bs) : Prop where
 rd : Rd w B A (l.map bsv)
 le : l.length ≤ cap
 most : cap ≤ maxLen
 all : ∀ b ∈ l, IsBs w B b
theorem IsBs.keep {w w' : World} {B : Nat} {b : Bs} (h : IsBs w B b) (hB : B ≤ w.heap.size) (F : Fresh w w') : IsBs w' B b := ⟨h.rd.fresh hB F, h.le, h.most, h.reach⟩
theorem IsBss.keep {w w' : World} {B : Nat} {A : Option Addr} {cap : Nat} {l : List Bs} (h : IsBss w B A cap l) (hB : B ≤ w.heap.size) (F : Fresh w w') : IsBss w' B A cap l :=
 ⟨h.rd.fresh hB F, h.le, h.most, fun b hb => (h.all b hb).keep hB F⟩
theorem IsBss.at_ {w : World} {B : Nat} {A : Option Addr} {cap : Nat} {l : List Bs} (h : IsBss w B A cap l) {k : Nat} (hk : k < l.length) :
 ∃ b o, A = some ⟨b, o, none⟩ ∧ b < B ∧ w.cell? ⟨b, o + k, none⟩ = some (bsv l[k]) ∧ IsBs w B l[k] := by
 obtain ⟨b, o, hA, hb, hc⟩ := h.rd.at_ (k := k) (by simpa using hk)
 rw [List.getElem_map] at hc
 exact ⟨b, o, hA, hb, hc, h.all _ (ze hk)⟩
def u8f : Int → List Value := fun n => [.int .u8 n]
def u8q : Int → Prop := fun n => (Lit.int .u8 n).wf = true
theorem map_u8 (bs : List UInt8) : (bs.map fun b => (b.toNat : Int)).flatMap u8f = bs.map bv := by
 induction bs with
 | nil => rfl
 | cons b r ih => rw [zW, zq, ih]; rfl
theorem to_bs {w : World} {s : Option Addr × Nat × List Int} (h : IsL w 1 u8f u8q s) : ∃ b : Bs, sv s = bsv b ∧ IsBs w w.heap.size b := by
 obtain ⟨A, cap, zs⟩ := s
 obtain ⟨bs, rfl⟩ := bytes_of_ints zs h.all
 refine ⟨(A, cap, bs), by simp [sv, bsv], ⟨?_, by simpa using h.le, h.most, ?_⟩⟩
 ·have := h.rd
  simp only [map_u8] at this
  exact this
 ·have := h.reach
  simp only [Nat.mul_one] at this
  exact this
theorem to_bss {w : World} {s : Option Addr × Nat × List (Option Addr × Nat × List Int)} (h : IsL w 24 (fun s => [sv s]) (IsL w 1 u8f u8q) s) : ∃ l : List Bs, sv s = .slice s.1 l.length s.2.1 ∧ IsBss w w.heap.size s.1 s.2.1 l := by
 obtain ⟨A, cap, xs⟩ := s
 have key : ∀ (xs : List (Option Addr × Nat × List Int)), (∀ x ∈ xs, IsL w 1 u8f u8q x) → ∃ l : List Bs, l.length = xs.length ∧ (xs.flatMap fun s => [sv s]) = l.map bsv ∧ ∀ b ∈ l, IsBs w w.heap.size b := by
  intro xs
  induction xs with
  | nil => intro _; exact ⟨[], rfl, rfl, by simp⟩
  | cons x r ih =>
   intro hx
   obtain ⟨b, h1, h2⟩ := to_bs (hx x (by simp))
   obtain ⟨l, h3, h4, h5⟩ := ih (fun y hy => hx y (by simp [hy]))
   refine ⟨b :: l, by simp [h3], by rw [zq, h4, h1]; rfl, fun c hc => ?_⟩
   rcases zU.1 hc with rfl | hc
   ·exact h2
   ·exact h5 c hc
 obtain ⟨l, h1, h2, h3⟩ := key xs h.all
 refine ⟨l, by simp [sv, h1], ⟨?_, by rw [h1]; exact h.le, h.most, h3⟩⟩
 have := h.rd
 simp only [h2] at this
 exact this
def longB (b : Bs) : Bool := decide (4000 < b.2.2.length)
theorem long_any (b : Bs) (w : World) : Calls Tryz.prog 14 #[bsv b] w fun e w' => e = .returned (.bool (longB b)) ∧ w' = w := by
 obtain ⟨A, c, bs⟩ := b
 unfold bsv
 dsimp only
 have HL : Hid (longB (A, c, bs) = decide (4000 < bs.length)) := zh rfl
 by_cases h : 4000 < bs.length
 ·have h1 : (4000 : Int) < (bs.length : Int) := by omega
  have d1 : decide ((4000 : Int) < (bs.length : Int)) = true := zc h1
  go_in
  go_wp2_with fail
  go_ret
  exact ⟨by rw [HL.out, zc h]; rfl, rfl⟩
 ·have h1 : ¬ (4000 : Int) < (bs.length : Int) := by omega
  have d1 : decide ((4000 : Int) < (bs.length : Int)) = false := zb h1
  go_in
  go_wp2_with fail
  go_ret
  exact ⟨by rw [HL.out, zb h]; rfl, rfl⟩
def IdxP (w : World) (r : Bool) (e : Ending) (w' : World) : Prop := ∃ z : Int, e = .returned (.int .i64 z) ∧ decide (0 ≤ z) = r ∧ w' = w
theorem indexLong_any (w : World) (A : Option Addr) (cap : Nat) (l : List Bs) (h : IsBss w w.heap.size A cap l) (hl : l.length ≤ 1000) :
 Calls Tryz.prog 34 #[.slice A l.length cap, .func (.func 14) #[] #[]] w fun e w' => IdxP w (l.any longB) e w' := by
 have H := zh h
 have hen : ∀ args w, (callFunc 14 args).run Tryz.prog w = .ok (.enter 14 args) w := fun args w => cl_enter_any (P := Tryz.prog) (f := 14) Tryz.func14 (by kernel_rfl) rfl args w
 clear h
 go_in
 go_wp2_with fail
 go_loopw [8] (fun v8 wr => ∃ k : Nat, k ≤ l.length ∧ v8 = .int .i64 (k : Int) ∧ wr = w ∧ ∀ b ∈ l.take k, longB b = false) (fun v8 _ => l.length - (intOf v8).toNat)
 case atStart => exact ⟨0, by omega, rfl, rfl, fun b hb => by cases hb⟩
 case round =>
  obtain ⟨k, hk, rfl, hwr, hno⟩ := hrel
  replace hwr := hwr.symm
  subst hwr
  have HNO := zh hno
  clear hno
  have hk0 : (0 : Int) ≤ (k : Int) := by omega
  by_cases hlt : k < l.length
  ·have hlti : (k : Int) < (l.length : Int) := by omega
   have d1 : decide ((k : Int) < (l.length : Int)) = true := zc hlti
   obtain ⟨b, o, hA, _, hx, _⟩ := H.out.at_ (k := k) hlt
   subst hA
   have HLO := zh (fun w => long_any l[k] w)
   have HMB := zh (ze hlt)
   have HTK : Hid (longB l[k] = false → ∀ b ∈ l.take (k + 1), longB b = false) := zh fun e b hb => by
    rw [zu hlt] at hb
    rcases zy.1 hb with hb | hb
    ·exact HNO.out b hb
    ·rw [zO.1 hb]; exact e
   generalize l[k] = b1 at hx HLO HMB HTK
   obtain ⟨bA, bc, bb⟩ := b1
   unfold bsv at hx HLO
   dsimp only at hx HLO
   obtain ⟨lb, hlb⟩ : ∃ z, z = longB (bA, bc, bb) := ⟨_, rfl⟩
   rw [← hlb] at HLO HTK
   have HLB := zh hlb
   clear hlb
   cases lb with
   | true =>
    have HANY : Hid (l.any longB = true) := zh (List.any_eq_true.2 ⟨_, HMB.out, HLB.out.symm⟩)
    go_wp2_with fail
    refine (HLO.out _).mono ?_
    rintro e w3 ⟨rfl, hw3⟩
    replace hw3 := hw3.symm
    subst hw3
    go_wp2_with fail
    go_ret
    exact ⟨_, rfl, by rw [HANY.out]; exact zc hk0, rfl⟩
   | false =>
    go_wp2_with fail
    refine (HLO.out _).mono ?_
    rintro e w3 ⟨rfl, hw3⟩
    replace hw3 := hw3.symm
    subst hw3
    go_wp2_with fail
    go_roundw
    case rel => exact ⟨k + 1, by omega, by go_num, by first | rfl | trivial, HTK.out (by first | rfl | trivial)⟩
    case measure => simp [intOf]; omega
  ·have hlti : ¬ (k : Int) < (l.length : Int) := by omega
   have d1 : decide ((k : Int) < (l.length : Int)) = false := zb hlti
   have HANY : Hid (l.any longB = false) := zh (by
    have h1 := HNO.out
    rw [zD (by omega)] at h1
    rw [List.any_eq_false]
    intro x hx
    rw [h1 x hx]
    simp)
   go_wp2_with fail
   go_ret
   exact ⟨_, rfl, by rw [HANY.out]; rfl, rfl⟩
theorem containsLong_any (w : World) (A : Option Addr) (cap : Nat) (l : List Bs) (h : IsBss w w.heap.size A cap l) (hl : l.length ≤ 1000) :
 Calls Tryz.prog 16 #[.slice A l.length cap, .func (.func 14) #[] #[]] w fun e w' => e = .returned (.bool (l.any longB)) ∧ w' = w := by
 have HI := zh (indexLong_any w A cap l h hl)
 obtain ⟨r, hr⟩ : ∃ z, z = l.any longB := ⟨_, rfl⟩
 rw [← hr] at HI
 have HRR := zh hr
 clear h hr
 go_in
 go_wp2_with fail
 refine HI.out.mono ?_
 rintro e w2 ⟨z, rfl, hz, hw2⟩
 replace hw2 := hw2.symm
 subst hw2
 have HZ := zh hz
 clear hz
 go_wp2_with fail
 go_ret
 exact ⟨by rw [← HRR.out, ← HZ.out]; rfl, rfl⟩
def x0 : CSt := ⟨0, 0, 0, 1, 0, false, 0⟩
theorem Cc.pushK {w : World} {B : Nat} {L : CL} {l : List Int} {ks : List BsM} {x : CSt} {op : List Int} (h : Cc w B L l ks [] x op) (hR : L.RA = none) (m : BsM) (hm : bsE w m) {w1 : World} {A' : Option Addr} {c' : Nat} (hs : Sl w1 B 39 1 (.slice A' (ks.length + 1) c') (ks.length + 1) (ks.map BsM.v ++ [m.v])) (F : Frm (fun k => (Value.slice L.KA ks.length L.kc).ownBlock = some k) w w1) :
 Cc (w1.setCell ⟨L.b, 2, none⟩ (.slice A' (ks.length + 1) c')) B { L with KA := A', kc := c' } l (ks ++ [m]) [] x op := by
 have hu : ∀ k cs, Blk w k 5 cs → ¬ ((Value.slice L.KA ks.length L.kc).ownBlock = some k) := fun k cs hb e => h.ksl.apart hb (by decide) e
 have hb1 : Blk w1 L.b 57 (ccl L l.length ks.length 0 x).toArray := h.blk.frm F (fun e => h.ksl.apart h.blk (by decide) e)
 have h1 : Sl w1 B 3 1 (.slice L.A l.length L.nc) l.length (l.map civ) := h.sl.frm F (fun k hk e => h.ksl.differ h.sl (by decide) e hk)
 have h4 : ∀ m' ∈ ks ++ [m], bsE w1 m' := fun m' hm' => by
  rcases zy.1 hm' with e | e
  ·exact (h.kel m' e).frm F hu
  ·rw [zO.1 e]; exact hm.frm F hu
 obtain ⟨n, D, ho, hn, hD⟩ := h.om
 have ho1 := OM.frm ho F (fun e => h.own_m h.ksl e)
 have F2 : Frm (fun k => k = L.b) w1 (w1.setCell ⟨L.b, 2, none⟩ (.slice A' (ks.length + 1) c')) := (za (fun k => k = L.b) w1).setCell (p := ⟨L.b, 2, none⟩) (fun _ => rfl) _
 have hb2 := hb1.set 2 (.slice A' (ks.length + 1) c')
 rw [List.setIfInBounds_toArray] at hb2
 have hu2 : ∀ k cs, Blk w1 k 5 cs → ¬ (k = L.b) := fun k cs hb e => by subst e; exact hb.apart hb1 (by decide) rfl
 have hRs : h.rsl = h.rsl := rfl
 have hr := h.rsl
 rw [hR] at hr
 refine ⟨?_, ⟨n, D, OM.frm ho1 F2 h.ne, hn, hD⟩, h1.frm F2 (fun k hk e => by subst e; exact h1.apart hb1 (by decide) hk), ?_, fun m hm => (h4 m hm).frm F2 hu2, ?_, (fun m hm => by cases hm), ?_, h.bge, h.mge, h.pos⟩
 ·rw [zg]
  exact hb2
 ·have hh := hs.frm F2 (fun k hk e => by subst e; exact hs.apart hb1 (by decide) hk)
  rw [zg, zn]
  exact hh
 ·show Sl _ B 39 1 (.slice L.RA 0 L.rc) 0 []
  rw [hR]
  exact (hr.frm F (fun k hk => by cases hk)).frm F2 (fun k hk => by cases hk)
 ·intro k hk
  rw [show ({ L with KA := A', kc := c' } : CL).RA = none from hR] at hk
  cases hk
def NewP (w : World) (l : List Int) (cmds : List (List UInt8)) (e : Ending) (w' : World) : Prop :=
 ∃ L ks, e = .returned (.tuple #[.pointer (some ⟨L.b, 0, none⟩), .int .i64 0]) ∧ Cc w' w.heap.size L l ks [] x0 [] ∧ ks.map lenB = cmds ∧ Fresh w w'
def bytesB (b : Bs) : List UInt8 := b.2.2
theorem newC_no (w : World) (A : Option Addr) (cap : Nat) (l : List Int) (hA : Rd w w.heap.size A (l.map civ)) (hl1 : 1 ≤ l.length) (hl2 : l.length ≤ 15) (hodd : l.any oddNode = false) (KA : Option Addr) (kc : Nat) (lst : List Bs) (hK : IsBss w w.heap.size KA kc lst) (hbad : 100 < lst.length ∨ lst.any longB = true) (hll : lst.length ≤ 1000) :
 Calls Tryz.prog 6 #[.int .i64 3, .slice A l.length cap, .slice KA lst.length kc] w fun e w' => e = .returned (.tuple #[.pointer none, .int .i64 1]) ∧ w' = w := by
 have H := jM _ _ oddNode_tests w A cap l hA (by omega)
 rw [hodd] at H
 have HC := zh H
 have HB := zh (containsLong_any w KA kc lst hK hll)
 have h3i : ¬ (l.length : Int) < 1 := by omega
 have h4i : ¬ (15 : Int) < (l.length : Int) := by omega
 clear H hodd hK hA
 by_cases h1 : 100 < lst.length
 ·have h1i : (100 : Int) < (lst.length : Int) := by omega
  have d1 : decide ((100 : Int) < (lst.length : Int)) = true := zc h1i
  go_in
  go_wp2_with fail
  go_ret2
  exact ⟨rfl, rfl⟩
 ·have h1i : ¬ (100 : Int) < (lst.length : Int) := by omega
  have d1 : decide ((100 : Int) < (lst.length : Int)) = false := zb h1i
  have hany : lst.any longB = true := by rcases hbad with e | e; exact absurd e h1; exact e
  rw [hany] at HB
  clear hany hbad
  go_in
  go_wp2_with fail
  refine HC.out.mono ?_
  rintro e w' ⟨rfl, hw'⟩
  rw [hw']
  clear hw' w'
  go_wp2_with fail
  refine HB.out.mono ?_
  rintro e w' ⟨rfl, hw'⟩
  rw [hw']
  clear hw' w'
  go_wp2_with fail
  go_ret2
  exact ⟨rfl, rfl⟩
theorem newC_yes (w : World) (A : Option Addr) (cap : Nat) (l : List Int) (hA : Rd w w.heap.size A (l.map civ)) (hl1 : 1 ≤ l.length) (hl2 : l.length ≤ 15) (hodd : l.any oddNode = false) (hc : l.length ≤ cap) (hm : cap ≤ maxLen) (KA : Option Addr) (kc : Nat) (lst : List Bs) (hK : IsBss w w.heap.size KA kc lst) (h100 : lst.length ≤ 100) (hgood : lst.any longB = false) :
 Calls Tryz.prog 6 #[.int .i64 3, .slice A l.length cap, .slice KA lst.length kc] w fun e w' => NewP w l (lst.map bytesB) e w' := by
 obtain ⟨i0, hi0, hz0, hz1, hz2⟩ := info_parts info_bs
 have H := jM _ _ oddNode_tests w A cap l hA (by omega)
 rw [hodd] at H
 have HC := zh H
 have H2 := containsLong_any w KA kc lst hK (by omega)
 rw [hgood] at H2
 have HB := zh H2
 have HCL := zh (cl_clone_any w A cap l hA hl2 (by omega) hc hm)
 have hmm := @run_makeMap Tryz.prog
 have HK := zh hK
 have HLG : Hid (∀ b ∈ lst, b.2.2.length ≤ 4000) := zh fun b hb => by
  have h1 := List.any_eq_false.1 hgood b hb
  unfold longB at h1
  simpa using h1
 have h3i : ¬ (l.length : Int) < 1 := by omega
 have h4i : ¬ (15 : Int) < (l.length : Int) := by omega
 have h1i : ¬ (100 : Int) < (lst.length : Int) := by omega
 have d1 : decide ((100 : Int) < (lst.length : Int)) = false := zb h1i
 clear H H2 hodd hA hK hgood
 go_in
 go_wp2_with fail
 refine HC.out.mono ?_
 rintro e w' ⟨rfl, hw'⟩
 rw [hw']
 clear hw' w'
 go_wp2_with fail
 refine HB.out.mono ?_
 rintro e w' ⟨rfl, hw'⟩
 rw [hw']
 clear hw' w'
 go_wp2_with fail
 refine HCL.out.mono ?_
 rintro e w1 ⟨v1, rfl, hs1, f1⟩
 obtain ⟨A1, c1, rfl, _⟩ := hs1.shape
 have HF1 := zh f1
 have HS1 := zh hs1
 have hsz := f1.size
 clear hs1 f1
 go_wp2_with fail
 obtain ⟨W, hW⟩ : ∃ W, W = (w1.alloc (.map #[] 0)).alloc (.cells (ccl ⟨w1.heap.size + 1, w1.heap.size, A1, c1, none, 0, none, 0⟩ l.length 0 0 x0).toArray 57) := ⟨_, rfl⟩
 have HW : Hid (Cc W w.heap.size ⟨w1.heap.size + 1, w1.heap.size, A1, c1, none, 0, none, 0⟩ l [] [] x0 []) := zh (by
  rw [hW]
  refine ⟨?_, ⟨0, .map [], (World.ownsMap_made w1 _ _ _).alloc _, zf _, fun z => rfl⟩, (HS1.out.alloc _).alloc _, Sl.nil _ _ _ _, (fun m hm => by cases hm), Sl.nil _ _ _ _, (fun m hm => by cases hm), (fun k hk => by cases hk), by dsimp only; omega, by dsimp only; omega, by show (0 : Nat) < l.length; omega⟩
  have := Blk.new (w1.alloc (.map #[] 0)) 57 (ccl ⟨w1.heap.size + 1, w1.heap.size, A1, c1, none, 0, none, 0⟩ l.length 0 0 x0).toArray
  rwa [zJ] at this)
 have HFW : Hid (Fresh w W) := zh (by rw [hW]; exact (HF1.out.alloc _).alloc _)
 go_loopw [52] (fun v52 wr => ∃ (k : Nat) (L : CL) (ks : List BsM), k ≤ lst.length ∧ v52 = .int .i64 (k : Int) ∧ L.b = w1.heap.size + 1 ∧ L.RA = none ∧ ks.map lenB = (lst.take k).map bytesB ∧ Cc wr w.heap.size L l ks [] x0 [] ∧ Fresh w wr) (fun v52 _ => lst.length - (intOf v52).toNat)
 case atStart => exact ⟨0, _, [], by omega, rfl, rfl, rfl, rfl, by first | exact HW.out | (rw [← hW]; exact HW.out) | (have h := HW.out; rw [hW] at h; exact h), by first | exact HFW.out | (rw [← hW]; exact HFW.out) | (have h := HFW.out; rw [hW] at h; exact h)⟩
 case round =>
  obtain ⟨k, L, ks, hkl, rfl, hLb, hLR, hks, hcc, hf⟩ := hrel
  clear hW
  have hk0 : (0 : Int) ≤ (k : Int) := by omega
  have HKS := zh hks
  have HCC := zh hcc
  have HF := zh hf
  have HLR := zh hLR
  have hkk : ks.length = k := by have := congrArg List.length hks; rw [zB, zB, zw] at this; omega
  clear hks hcc hf hLR
  by_cases hlt : k < lst.length
  ·have hlti : (k : Int) < (lst.length : Int) := by omega
   have d2 : decide ((k : Int) < (lst.length : Int)) = true := zc hlti
   obtain ⟨bK, oK, hKA, _, hx, hb9⟩ := (HK.out.keep (zf _) HF.out).at_ (k := k) hlt
   have h4k := HLG.out _ (ze hlt)
   have HTK : Hid ((lst.take (k + 1)).map bytesB = ks.map lenB ++ [bytesB lst[k]]) := zh (by rw [zu hlt, zn, HKS.out]; rfl)
   generalize lst[k] = b1 at hx hb9 h4k HTK
   obtain ⟨bA, bc, m9⟩ := b1
   unfold bsv at hx
   dsimp only at hx h4k
   have HCN := zh (rd_clone_any wr.drew w.heap.size bA bc m9 hb9.rd (by have := HF.out.size; simpa using this) (by omega) hb9.le hb9.most)
   have yd : wr.drew.cell? ⟨w1.heap.size + 1, 2, none⟩ = some (.slice L.KA ks.length L.kc) := by rw [← hLb]; exact (HCC.out.fresh (za _ wr).drew).blk.cell 2
   subst hKA
   rw [hkk] at yd
   have HKK := zh hkk
   clear hb9 hkk
   go_upto_region 9 with fail
   refine zj (S := (fun _ => True)) (by kernel_rfl) (trivial) (fun hHeld => ?_)
   iterate 4 ((first | refine ztn (v := ?_) (zo rfl) ?_ | refine ztz (v := ?_) (zo rfl) ?_); try simp only [Act.put, zT, zZ, zS])
   (refine zt 5 (v := ?_) (zo rfl) ?_; try simp only [Act.put, zT, zZ, zS])
   refine zr2 4 6 (zo rfl) (zo rfl) (fun K hK => ?_) (fun K hK => ?_)
   ·go_simp
    refine hK.out _ _ (trivial) (fun hHeld => ?_)
    clear hK K
    try simp only [Act.put, zT, zZ, zS]
    refine zr1 6 (zo rfl) (fun K hK => ?_)
    go_simp
    refine (HCN.out).mono ?_
    rintro e w3 ⟨v3, rfl, hs3, f3⟩
    obtain ⟨A9, c9, rfl, _⟩ := hs3.shape
    have HE3 : Hid (bsE w3 ⟨A9, c9, m9⟩) := zh (hs3.less (zF _))
    have HFD3 : Hid (Fresh wr w3) := zh ((za _ wr).drew.trans f3)
    have HC3 := zh (HCC.out.fresh HFD3.out)
    have y3 : w3.cell? ⟨w1.heap.size + 1, 2, none⟩ = some (.slice L.KA k L.kc) := by rw [← hLb, ← HKK.out]; exact HC3.out.blk.cell 2
    have HCV := zh (HC3.out.fresh (jC w3 (.cells #[.slice A9 m9.length c9] 39)))
    have HEV := zh (HE3.out.fresh (jC w3 (.cells #[.slice A9 m9.length c9] 39)))
    have yv : (w3.alloc (.cells #[.slice A9 m9.length c9] 39)).cell? ⟨w1.heap.size + 1, 2, none⟩ = some (.slice L.KA k L.kc) := by rw [← hLb, ← HKK.out]; exact HCV.out.blk.cell 2
    have RV : Hid (Rd (w3.alloc (.cells #[.slice A9 m9.length c9] 39)) (w3.heap.size + 1) (some ⟨w3.heap.size, 0, none⟩) [.slice A9 m9.length c9]) := zh (jL w3 [.slice A9 m9.length c9] 39)
    have HSK : Hid (Sl (w3.alloc (.cells #[.slice A9 m9.length c9] 39)) w.heap.size 39 1 (.slice L.KA k L.kc) k (ks.map BsM.v)) := zh (by have h := HCV.out.ksl; rw [HKK.out] at h; exact h)
    have hBs : w.heap.size ≤ (w3.alloc (.cells #[.slice A9 m9.length c9] 39)).heap.size := by have h1 := HF.out.size; have h2 := HFD3.out.size; simp; omega
    clear hs3 f3
    refine hK.out _ _ (trivial) (fun hHeld => ?_)
    clear hK K
    try simp only [Act.put, zT, zZ, zS]
    refine zr1 7 (zo rfl) (fun K hK => ?_)
    go_simp
    refine hK.out _ _ (trivial) (fun hHeld => ?_)
    clear hK K
    try simp only [Act.put, zT, zZ, zS]
    refine zr1 8 (zo rfl) (fun K hK => ?_)
    refine jF (by rfl) (.tmp 60) (.tmp 63) _ (by rfl) w.heap.size 39 i0 _ 1 24 Tryz.underlying22 hi0 hz0 hz1 hz2 rfl (by omega) (.slice L.KA k L.kc) k (ks.map BsM.v) (by simp [Act.eval, Act.put]) HSK.out (w3.heap.size + 1) (some ⟨w3.heap.size, 0, none⟩) 1 1 [.slice A9 m9.length c9] (by simp [Act.eval, Act.put]) rfl RV.out (fun u hu => by simp at hu; subst hu; rfl) (by unfold maxLen; omega) (by omega) hBs ?_
    intro v1 wa hs1 hf1 _
    obtain ⟨A8, c8, rfl, _⟩ := hs1.shape
    have HP := zh (HCV.out.pushK HLR.out ⟨A9, c9, m9⟩ HEV.out (A' := A8) (c' := c8) (by rw [HKK.out]; exact hs1) (by rw [HKK.out]; exact hf1))
    have hba := HCV.out.blk.frm hf1 (fun e => HSK.out.apart HCV.out.blk (by decide) e)
    rw [hLb] at hba
    have b2 : wa.cell? ⟨w1.heap.size + 1, 2, none⟩ = some (.slice L.KA k L.kc) := by rw [← HKK.out]; exact hba.cell 2
    have z2 : wa.frozen? ⟨w1.heap.size + 1, 2, none⟩ = false := hba.frozen 2
    obtain ⟨X6, hX6⟩ : ∃ X, wa.setCell ⟨w1.heap.size + 1, 2, none⟩ (.slice A8 (k + 1) c8) = X := ⟨_, rfl⟩
    have hX7 : wa.setCell ⟨L.b, 2, none⟩ (.slice A8 (k + 1) c8) = X6 := by rw [hLb]; exact hX6
    rw [HKK.out, hX7] at HP
    clear hX7
    have HFX : Hid (Fresh w X6) := zh (by rw [← hX6]; refine ((HF.out.trans HFD3.out).trans (jC w3 (.cells #[.slice A9 m9.length c9] 39))).trans' (hf1.mono (T := fun k => w.heap.size ≤ k) (fun k _ e => (HSK.out.lt _ e).1) |>.setCell (p := ⟨w1.heap.size + 1, 2, none⟩) (fun _ => by show w.heap.size ≤ w1.heap.size + 1; omega) _) (fun k hk e => by omega))
    clear hs1 hf1 hba
    refine hK.out _ _ (trivial) (fun hHeld => ?_)
    clear hK K
    try simp only [Act.put, zT, zZ, zS]
    iterate 2 (refine ztn (v := ?_) (zo rfl) ?_; try simp only [Act.put, zT, zZ, zS])
    refine zr1 11 (zo rfl) (fun K hK => ?_)
    go_simp
    try rw [hX6]
    refine hK.out _ _ (trivial) (fun hHeld => ?_)
    clear hK K
    try simp only [Act.put, zT, zZ, zS]
    refine wpAnyH_done (by kernel_rfl) ?_ _
    try rw [hX6]
    clear hX6 b2 z2 yd y3 yv
    go_wp2_with fail
    go_roundw
    case rel => exact ⟨k + 1, ({ L with KA := A8, kc := c8 } : CL), ks ++ [⟨A9, c9, m9⟩], by omega, by go_num, hLb, HLR.out, by rw [HTK.out, zn]; rfl, HP.out, HFX.out⟩
    case measure => simp [intOf]; omega
   ·go_simp
    refine (HCN.out).mono ?_
    rintro e w3 ⟨v3, rfl, hs3, f3⟩
    obtain ⟨A9, c9, rfl, _⟩ := hs3.shape
    have HE3 : Hid (bsE w3 ⟨A9, c9, m9⟩) := zh (hs3.less (zF _))
    have HFD3 : Hid (Fresh wr w3) := zh ((za _ wr).drew.trans f3)
    have HC3 := zh (HCC.out.fresh HFD3.out)
    have y3 : w3.cell? ⟨w1.heap.size + 1, 2, none⟩ = some (.slice L.KA k L.kc) := by rw [← hLb, ← HKK.out]; exact HC3.out.blk.cell 2
    have HCV := zh (HC3.out.fresh (jC w3 (.cells #[.slice A9 m9.length c9] 39)))
    have HEV := zh (HE3.out.fresh (jC w3 (.cells #[.slice A9 m9.length c9] 39)))
    have yv : (w3.alloc (.cells #[.slice A9 m9.length c9] 39)).cell? ⟨w1.heap.size + 1, 2, none⟩ = some (.slice L.KA k L.kc) := by rw [← hLb, ← HKK.out]; exact HCV.out.blk.cell 2
    have RV : Hid (Rd (w3.alloc (.cells #[.slice A9 m9.length c9] 39)) (w3.heap.size + 1) (some ⟨w3.heap.size, 0, none⟩) [.slice A9 m9.length c9]) := zh (jL w3 [.slice A9 m9.length c9] 39)
    have HSK : Hid (Sl (w3.alloc (.cells #[.slice A9 m9.length c9] 39)) w.heap.size 39 1 (.slice L.KA k L.kc) k (ks.map BsM.v)) := zh (by have h := HCV.out.ksl; rw [HKK.out] at h; exact h)
    have hBs : w.heap.size ≤ (w3.alloc (.cells #[.slice A9 m9.length c9] 39)).heap.size := by have h1 := HF.out.size; have h2 := HFD3.out.size; simp; omega
    clear hs3 f3
    refine hK.out _ _ (trivial) (fun hHeld => ?_)
    clear hK K
    try simp only [Act.put, zT, zZ, zS]
    refine zr2 4 7 (zo rfl) (zo rfl) (fun K hK => ?_) (fun K hK => ?_)
    ·go_simp
     refine hK.out _ _ (trivial) (fun hHeld => ?_)
     clear hK K
     try simp only [Act.put, zT, zZ, zS]
     refine zr1 7 (zo rfl) (fun K hK => ?_)
     go_simp
     refine hK.out _ _ (trivial) (fun hHeld => ?_)
     clear hK K
     try simp only [Act.put, zT, zZ, zS]
     refine zr1 8 (zo rfl) (fun K hK => ?_)
     refine jF (by rfl) (.tmp 60) (.tmp 63) _ (by rfl) w.heap.size 39 i0 _ 1 24 Tryz.underlying22 hi0 hz0 hz1 hz2 rfl (by omega) (.slice L.KA k L.kc) k (ks.map BsM.v) (by simp [Act.eval, Act.put]) HSK.out (w3.heap.size + 1) (some ⟨w3.heap.size, 0, none⟩) 1 1 [.slice A9 m9.length c9] (by simp [Act.eval, Act.put]) rfl RV.out (fun u hu => by simp at hu; subst hu; rfl) (by unfold maxLen; omega) (by omega) hBs ?_
     intro v1 wa hs1 hf1 _
     obtain ⟨A8, c8, rfl, _⟩ := hs1.shape
     have HP := zh (HCV.out.pushK HLR.out ⟨A9, c9, m9⟩ HEV.out (A' := A8) (c' := c8) (by rw [HKK.out]; exact hs1) (by rw [HKK.out]; exact hf1))
     have hba := HCV.out.blk.frm hf1 (fun e => HSK.out.apart HCV.out.blk (by decide) e)
     rw [hLb] at hba
     have b2 : wa.cell? ⟨w1.heap.size + 1, 2, none⟩ = some (.slice L.KA k L.kc) := by rw [← HKK.out]; exact hba.cell 2
     have z2 : wa.frozen? ⟨w1.heap.size + 1, 2, none⟩ = false := hba.frozen 2
     obtain ⟨X6, hX6⟩ : ∃ X, wa.setCell ⟨w1.heap.size + 1, 2, none⟩ (.slice A8 (k + 1) c8) = X := ⟨_, rfl⟩
     have hX7 : wa.setCell ⟨L.b, 2, none⟩ (.slice A8 (k + 1) c8) = X6 := by rw [hLb]; exact hX6
     rw [HKK.out, hX7] at HP
     clear hX7
     have HFX : Hid (Fresh w X6) := zh (by rw [← hX6]; refine ((HF.out.trans HFD3.out).trans (jC w3 (.cells #[.slice A9 m9.length c9] 39))).trans' (hf1.mono (T := fun k => w.heap.size ≤ k) (fun k _ e => (HSK.out.lt _ e).1) |>.setCell (p := ⟨w1.heap.size + 1, 2, none⟩) (fun _ => by show w.heap.size ≤ w1.heap.size + 1; omega) _) (fun k hk e => by omega))
     clear hs1 hf1 hba
     refine hK.out _ _ (trivial) (fun hHeld => ?_)
     clear hK K
     try simp only [Act.put, zT, zZ, zS]
     iterate 2 (refine ztn (v := ?_) (zo rfl) ?_; try simp only [Act.put, zT, zZ, zS])
     refine zr1 11 (zo rfl) (fun K hK => ?_)
     go_simp
     try rw [hX6]
     refine hK.out _ _ (trivial) (fun hHeld => ?_)
     clear hK K
     try simp only [Act.put, zT, zZ, zS]
     refine wpAnyH_done (by kernel_rfl) ?_ _
     try rw [hX6]
     clear hX6 b2 z2 yd y3 yv
     go_wp2_with fail
     go_roundw
     case rel => exact ⟨k + 1, ({ L with KA := A8, kc := c8 } : CL), ks ++ [⟨A9, c9, m9⟩], by omega, by go_num, hLb, HLR.out, by rw [HTK.out, zn]; rfl, HP.out, HFX.out⟩
     case measure => simp [intOf]; omega
    ·go_simp
     refine hK.out _ _ (trivial) (fun hHeld => ?_)
     clear hK K
     try simp only [Act.put, zT, zZ, zS]
     refine zr1 4 (zo rfl) (fun K hK => ?_)
     go_simp
     refine hK.out _ _ (trivial) (fun hHeld => ?_)
     clear hK K
     try simp only [Act.put, zT, zZ, zS]
     refine zr1 8 (zo rfl) (fun K hK => ?_)
     refine jF (by rfl) (.tmp 60) (.tmp 63) _ (by rfl) w.heap.size 39 i0 _ 1 24 Tryz.underlying22 hi0 hz0 hz1 hz2 rfl (by omega) (.slice L.KA k L.kc) k (ks.map BsM.v) (by simp [Act.eval, Act.put]) HSK.out (w3.heap.size + 1) (some ⟨w3.heap.size, 0, none⟩) 1 1 [.slice A9 m9.length c9] (by simp [Act.eval, Act.put]) rfl RV.out (fun u hu => by simp at hu; subst hu; rfl) (by unfold maxLen; omega) (by omega) hBs ?_
     intro v1 wa hs1 hf1 _
     obtain ⟨A8, c8, rfl, _⟩ := hs1.shape
     have HP := zh (HCV.out.pushK HLR.out ⟨A9, c9, m9⟩ HEV.out (A' := A8) (c' := c8) (by rw [HKK.out]; exact hs1) (by rw [HKK.out]; exact hf1))
     have hba := HCV.out.blk.frm hf1 (fun e => HSK.out.apart HCV.out.blk (by decide) e)
     rw [hLb] at hba
     have b2 : wa.cell? ⟨w1.heap.size + 1, 2, none⟩ = some (.slice L.KA k L.kc) := by rw [← HKK.out]; exact hba.cell 2
     have z2 : wa.frozen? ⟨w1.heap.size + 1, 2, none⟩ = false := hba.frozen 2
     obtain ⟨X6, hX6⟩ : ∃ X, wa.setCell ⟨w1.heap.size + 1, 2, none⟩ (.slice A8 (k + 1) c8) = X := ⟨_, rfl⟩
     have hX7 : wa.setCell ⟨L.b, 2, none⟩ (.slice A8 (k + 1) c8) = X6 := by rw [hLb]; exact hX6
     rw [HKK.out, hX7] at HP
     clear hX7
     have HFX : Hid (Fresh w X6) := zh (by rw [← hX6]; refine ((HF.out.trans HFD3.out).trans (jC w3 (.cells #[.slice A9 m9.length c9] 39))).trans' (hf1.mono (T := fun k => w.heap.size ≤ k) (fun k _ e => (HSK.out.lt _ e).1) |>.setCell (p := ⟨w1.heap.size + 1, 2, none⟩) (fun _ => by show w.heap.size ≤ w1.heap.size + 1; omega) _) (fun k hk e => by omega))
     clear hs1 hf1 hba
     refine hK.out _ _ (trivial) (fun hHeld => ?_)
     clear hK K
     try simp only [Act.put, zT, zZ, zS]
     iterate 2 (refine ztn (v := ?_) (zo rfl) ?_; try simp only [Act.put, zT, zZ, zS])
     refine zr1 11 (zo rfl) (fun K hK => ?_)
     go_simp
     try rw [hX6]
     refine hK.out _ _ (trivial) (fun hHeld => ?_)
     clear hK K
     try simp only [Act.put, zT, zZ, zS]
     refine wpAnyH_done (by kernel_rfl) ?_ _
     try rw [hX6]
     clear hX6 b2 z2 yd y3 yv
     go_wp2_with fail
     go_roundw
     case rel => exact ⟨k + 1, ({ L with KA := A8, kc := c8 } : CL), ks ++ [⟨A9, c9, m9⟩], by omega, by go_num, hLb, HLR.out, by rw [HTK.out, zn]; rfl, HP.out, HFX.out⟩
     case measure => simp [intOf]; omega
  ·have hlti : ¬ (k : Int) < (lst.length : Int) := by omega
   have d2 : decide ((k : Int) < (lst.length : Int)) = false := zb hlti
   have HE : Hid (ks.map lenB = lst.map bytesB) := zh (by rw [HKS.out, zD (by omega)])
   have HLB := zh hLb
   go_wp2_with fail
   go_ret2
   exact ⟨L, ks, by rw [HLB.out]; rfl, HCC.out, HE.out, HF.out⟩
end
namespace ReadM
theorem val_eq : ∀ (d : List UInt8) (a : Nat), d.foldl (fun n b => n * 256 + b.toNat) a = FieldM.val d a
 | [], _ => rfl
 | b :: r, a => by
  rw [List.foldl_cons, val_eq r]
  rfl
theorem val_be_wid {n : Nat} (h : n < 18446744073709551616) : val (FieldM.be (FieldM.wid n) n) = n := by
 unfold val
 rw [val_eq]
 exact FieldM.val_be_wid h
theorem lean_be {n : Nat} (h : n < 18446744073709551616) : lean (FieldM.be (FieldM.wid n) n) = true := by
 cases hw : FieldM.wid n with
 | zero => rfl
 | succ k =>
  rw [FieldM.be_cons, lean]
  have hk := FieldM.wid_lt k n h
  have h1 : ¬ n < 256 ^ k := by rw [hk]; omega
  have h2 : n < 256 ^ (k + 1) := (FieldM.wid_lt (k + 1) n h).2 (by omega)
  have h3 : 0 < n / 256 ^ k := Nat.div_pos (by omega) (Nat.pow_pos (by omega))
  have h4 : n / 256 ^ k < 256 := by
   rw [Nat.div_lt_iff_lt_mul (Nat.pow_pos (by omega))]
   rw [Nat.pow_succ] at h2
   omega
  rw [UInt8.toNat_ofNat', Nat.mod_eq_of_lt h4, Nat.mod_eq_of_lt (by simpa using h4)]
  simpa using h3
theorem head_num {k : Nat} (h : k ≤ 8) : wid (UInt8.ofNat k) = k ∧ neg (UInt8.ofNat k) = false ∧ okHead (UInt8.ofNat k) = true := by
 have e : (UInt8.ofNat k).toNat = k := by rw [UInt8.toNat_ofNat']; omega
 have hw : wid (UInt8.ofNat k) = k := by unfold wid; rw [e, zk (by omega)]
 have hn : neg (UInt8.ofNat k) = false := by unfold neg; rw [e]; simp; omega
 refine ⟨hw, hn, ?_⟩
 unfold okHead
 rw [hw, hn, e]
 simp
 omega
theorem dec_num {n : Nat} (h : n < 18446744073709551616) (rest : List UInt8) : dec (FieldM.num n ++ rest) = some (n, false, rest) := by
 obtain ⟨h1, h2, h3⟩ := head_num (FieldM.wid_le h)
 have ht : (FieldM.be (FieldM.wid n) n ++ rest).take (FieldM.wid n) = FieldM.be (FieldM.wid n) n := by
  rw [List.take_append_of_le_length (by rw [FieldM.be_length]; omega), zD (by rw [FieldM.be_length]; omega)]
 have hd : (FieldM.be (FieldM.wid n) n ++ rest).drop (FieldM.wid n) = rest := by
  rw [List.drop_append_of_le_length (by rw [FieldM.be_length]; omega), List.drop_of_length_le (by rw [FieldM.be_length]; omega), List.nil_append]
 unfold FieldM.num
 rw [List.cons_append, dec_some h3 (by rw [h1, zg, FieldM.be_length]; omega) (by rw [h1, ht]; exact lean_be h), h1, ht, hd, h2, val_be_wid h]
theorem numRes_num {n most : Nat} (h : n < 18446744073709551616) (hm : n ≤ most) (rest : List UInt8) : qG most (FieldM.num n ++ rest) = some (n, rest) := by
 rw [qG, dec_num h]
 exact zl hm
theorem textRes_text {b : List UInt8} {most : Int} (h : b.length < 18446744073709551616) (hm : (b.length : Int) ≤ most) (rest : List UInt8) : qH most (FieldM.text b ++ rest) = some (b, rest) := by
 unfold FieldM.text
 rw [List.append_assoc, qH, dec_num h]
 have ht : (b ++ rest).take b.length = b := by rw [List.take_append_of_le_length (zf _), zD (zf _)]
 have hd : (b ++ rest).drop b.length = rest := by rw [List.drop_append_of_le_length (zf _), List.drop_of_length_le (zf _), List.nil_append]
 simp only [ht, hd]
 exact zl ⟨by omega, hm, by rw [zg]; omega⟩
end ReadM
end Go.Proofs.YtnmokpbomeamfaaGreat

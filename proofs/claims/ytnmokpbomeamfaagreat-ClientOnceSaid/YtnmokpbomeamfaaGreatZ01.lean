/- Proved here, for the statement ClientOnceSaid: laws that its walk leans on. It holds with no condition. (Put together and shortened by a program out of many texts: Cl2, Maps, Cl3, Cl4, Cl5, Cl6, On1, Conv, On2, On6.) -/
import Derived.Test.YtnmokpbomeamfaaGreatZ00
import Derived.Deep.DrawnRows
import Derived.BigQuiet
set_option linter.unusedVariables false
set_option maxRecDepth 100000
set_option maxHeartbeats 64000000
namespace Go.Proofs.YtnmokpbomeamfaaGreat
section
open Go.RowKit
attribute [local go_sem ↓] Go.wp_at_zero Go.wp_at_succ
def codes (l : List Nat) : List UInt8 := l.flatMap FieldM.num
def nv (n : Nat) : Value := .int .i64 (n : Int)
theorem codes_take {l : List Nat} {i : Nat} (h : i < l.length) : codes (l.take (i + 1)) = codes (l.take i) ++ FieldM.num l[i] := by
 unfold codes
 rw [zu h, zV]
 simp
theorem codes_len : ∀ (l : List Nat), (∀ n ∈ l, n < 18446744073709551616) → (codes l).length ≤ l.length * 9
 | [], _ => by simp [codes]
 | n :: l, h => by
  have h1 := codes_len l (fun m hm => h m (by simp [hm]))
  have h2 := FieldM.num_length n
  have h3 := FieldM.wid_le (h n (by simp))
  unfold codes at *
  rw [zq, zg, zG]
  omega
theorem numbers_any (w : World) (A : Option Addr) (cap : Nat) (l : List Nat) (hA : Rd w w.heap.size A (l.map nv)) (hl : l.length ≤ 1000) (hs : ∀ n ∈ l, n ≤ 9223372036854775807) :
 Calls Tryz.prog 36 #[.slice A l.length cap] w fun e w' => ∃ v, e = .returned v ∧ Sl w' w.heap.size 5 1 v (codes l).length ((codes l).map bv) ∧ Fresh w w' := by
 obtain ⟨i0, hi, hz0, hz1, hz2⟩ := info_parts info_u8
 have HA := zh hA
 have HS := zh hs
 clear hA hs
 go_in
 go_wp2_with fail
 go_loopw [3, 8] (fun v3 v8 wr => ∃ (i : Nat) (u : Value), u = v3 ∧ i ≤ l.length ∧ v8 = .int .i64 (i : Int) ∧ Sl wr w.heap.size 5 1 u (codes (l.take i)).length ((codes (l.take i)).map bv) ∧ Fresh w wr) (fun _ v8 _ => l.length - (intOf v8).toNat)
 case atStart => exact ⟨0, _, rfl, by omega, rfl, by simpa [codes] using Sl.nil _ _ _ _, za _ _⟩
 case round =>
  obtain ⟨i, u, rfl, hin, rfl, hs, hf⟩ := hrel
  have HSL := zh hs
  have HF := zh hf
  have hsz := hf.size
  have hi0 : (0 : Int) ≤ (i : Int) := by omega
  by_cases hlt : i < l.length
  ·obtain ⟨b, o, rfl, _, hc⟩ := ((HA.out.fresh (zf _) hf).more hf.size).at_ (k := i) (by simpa using hlt)
   rw [List.getElem_map] at hc
   unfold nv at hc
   have hn := HS.out _ (ze hlt)
   have HT := zh (codes_take hlt)
   have hcl := codes_len (l.take i) (fun m hm => by have := HS.out m (List.mem_of_mem_take hm); omega)
   rw [zw] at hcl
   have hnum := FieldM.num_length l[i]
   have hwid := FieldM.wid_le (n := l[i]) (by omega)
   have hnle : (FieldM.num l[i]).length ≤ 9 := by omega
   have HNUM := zh (number_any l[i] (by omega) wr)
   clear hs hf hnum hwid
   generalize l[i] = n at hc hn HT HNUM hnle
   have hn0 : (0 : Int) ≤ (n : Int) := by omega
   have hn1 : ¬ (n : Int) < 0 := by omega
   have hn2 : (n : Int) ≤ 9223372036854775807 := by omega
   have hlti : (i : Int) < (l.length : Int) := by omega
   go_wp2_with fail
   refine HNUM.out.mono ?_
   rintro e w1 ⟨v1, rfl, hs1, f1⟩
   have HS1 := zh hs1
   have HSA := zh (HSL.out.fresh f1)
   have HF1 := zh (HF.out.trans f1)
   obtain ⟨A1, c1, rfl, _⟩ := hs1.shape
   have hsz1 := HF1.out.size
   clear hs1 f1
   go_wp2_with (at_builtin; refine jD _ rfl (.tmp 12) (.tmp 16) _ rfl w.heap.size 5 i0 _ 1 1 Tryz.underlying39 hi hz0 hz1 hz2 rfl (by omega) _ _ _ rfl HSA.out _ _ _ _ _ rfl (by rw [zB, Nat.mul_one]) HS1.out.rd (bv_one _) (by unfold maxLen; omega) (by omega) hsz1 ?_; intro v2 w2 hs2 hf2 ha2)
   have HS2 : Hid (Sl w2 w.heap.size 5 1 v2 (codes (l.take (i + 1))).length ((codes (l.take (i + 1))).map bv)) := zh (by rw [HT.out, zg, zn]; exact hs2)
   have HF2 : Hid (Fresh w w2) := zh (HF1.out.trans' hf2 (fun i hi hk => by have := (HSA.out.lt _ hk).1; omega))
   clear hs2 hf2 ha2
   go_wp2_with fail
   go_roundw
   case rel => exact ⟨i + 1, _, rfl, by omega, by go_num, HS2.out, HF2.out⟩
   case measure => simp [intOf]; omega
  ·obtain rfl : i = l.length := by omega
   have HT := zh (show l.take l.length = l from List.take_length)
   rw [HT.out] at HSL
   clear hs hf
   go_wp2_with fail
   go_ret
   exact ⟨_, rfl, HSL.out, HF.out⟩
theorem right_begin (w : World) (id : Nat) (hid : id ≤ 1000) :
 Calls Tryz.prog 35 #[.agg #[.int .i64 1, .int .i64 0, .int .i64 0, .int .i64 (id : Int), .slice none 0 0]] w fun e w' => e = .returned (.bool true) ∧ Fresh w w' := by
 have HANY : Hid ([0, 0, (id : Int)].any oddNum = false) := zh (by simp [oddNum]; omega)
 obtain ⟨W, hW⟩ : ∃ W, W = (w.alloc (.cells #[.int .i64 1, .int .i64 0, .int .i64 0, .int .i64 (id : Int), .slice none 0 0] 67)).alloc (.cells #[.int .i64 0, .int .i64 0, .int .i64 (id : Int)] 3) := ⟨_, rfl⟩
 have HF : Hid (Fresh w W) := zh (by rw [hW]; exact ((za _ _).alloc _).alloc _)
 have R : Rd W W.heap.size (some ⟨w.heap.size + 1, 0, none⟩) ([0, 0, (id : Int)].map civ) := by
  rw [hW]
  have := jL (w.alloc (.cells #[.int .i64 1, .int .i64 0, .int .i64 0, .int .i64 (id : Int), .slice none 0 0] 67)) ([0, 0, (id : Int)].map civ) 3
  rw [zJ] at this
  exact this.more (by simp)
 have H := jM _ _ oddNum_tests W _ 3 [0, 0, (id : Int)] R (by simp)
 rw [HANY.out] at H
 rw [hW] at H
 have HC := zh H
 rw [hW] at HF
 clear R H hW
 go_in
 go_wp2_with fail
 refine HC.out.mono ?_
 rintro e w1 ⟨rfl, hw1⟩
 rw [hw1]
 clear hw1 w1
 go_wp2_with fail
 go_ret
 exact ⟨rfl, HF.out⟩
end
section
open Go.RowKit
section
variable {H : Type} {P : Program} {k : TypeId} {R : Value → Option (DataW H × List MemPlace)} {w w' : World} {b n : Nat} {D : DataW H}
theorem OM.same (h : w.ownsMap P k R b n D) (e : w'.heap[b]? = w.heap[b]?) : w'.ownsMap P k R b n D := by
 obtain ⟨es, clock, hb, r⟩ := h
 exact ⟨es, clock, e.trans hb, r⟩
theorem OM.frm {S : Nat → Prop} (h : w.ownsMap P k R b n D) (F : Frm S w w') (hn : ¬ S b) : w'.ownsMap P k R b n D := OM.same h (F.block b h.lt hn)
theorem OM.not_cells (h : w.ownsMap P k R b n D) {g : Nat} {t : TypeId} {cs : Array Value} (hg : Blk w g t cs) : b ≠ g := by
 rintro rfl
 obtain ⟨es, clock, hb, _⟩ := h
 unfold Blk at hg
 rw [hb] at hg
 injection hg with hg
 cases hg
theorem OM.not_sl (h : w.ownsMap P k R b n D) {B e size : Nat} {v : Value} {m : Nat} {xs : List Value} (hs : Sl w B e size v m xs) : v.ownBlock ≠ some b := by
 intro hv
 rcases hs.2 with ⟨rfl, _⟩ | ⟨g, o, cap, cur, rfl, _, hb, _⟩
 ·simp [Value.ownBlock] at hv
 ·have : g = b := by simpa [Value.ownBlock] using hv
  subst this
  exact OM.not_cells h hb rfl
theorem OM.ask {t e : TypeId} (h : w.ownsMap P k (plainElem P e) b n D) (K : Maps.Keyed P k) (ht : P.underlying t = some (.map k e)) (he : P.underlying e = some .bool) (hz : (zeroValue e).run P w = .ok (.bool false) w)
 {key : Value} {kl : Lit} (hkey : keyOf P k key = some kl) {r : Bool} (hr : D.atKey kl (.lit (.bool false)) = .lit (.bool r)) : (Instr.lookup t (.map (some b)) key false).run P w = .ok (.bool r) w := by
 obtain ⟨v, ps, hrun, hv⟩ := h.lookup K ht hz (plainElem_bool he false) hkey
 rw [hr] at hv
 unfold plainElem at hv
 rw [he] at hv
 cases v <;> simp at hv
 obtain ⟨rfl, _⟩ := hv
 exact hrun
end
end
section
open Go.RowKit
attribute [local go_sem ↓] Go.wp_at_zero Go.wp_at_succ
theorem cl_step_append_sl {P : Program} {w : World} {ops : Array Oper} {o : Oper} {a : Act} {K : Act → World → Prop} {Q : Exit → Act → World → Prop} {E : Prop} (hgd : o.guard = none) (s x : Operand) (t : TypeId)
 (ho : o.op = .call { callee := .builtin .append, args := #[s, x], argTypes := #[t, t] })
 (B : Nat) (e : TypeId) (i : TypeInfo) (z : Value) (size bytes : Nat) (ht : P.underlying t = some (.slice e)) (hi : P.info? e = some i) (hz : i.zero = some z)
 (hsize : i.size = size) (hby : i.bytes = bytes) (hzs : z.cells.size = size) (hsz : 0 < size)
 (v : Value) (n : Nat) (xs : List Value) (hs : a.eval s = v) (hown : Sl w B e size v n xs)
 (B' : Nat) (A : Option Addr) (m c : Nat) (news : List Value) (hx : a.eval x = .slice A m c) (hl : news.length = m * size) (hr : Rd w B' A news) (h1 : ∀ u ∈ news, u.oneCell' = true)
 (h63 : n + m ≤ maxLen) (hbytes : (n + m) * bytes ≤ 140737488355328) (hB : B ≤ w.heap.size)
 (h : ∀ v' w', Sl w' B e size v' (n + m) (xs ++ news) → Frm (fun k => v.ownBlock = some k) w w' → (v'.ownBlock = v.ownBlock ∨ v'.ownBlock = some w.heap.size) → K (a.put o.dst v') w') :
 if Region.wanted o (yielded ops a.tmps) = true then Oper.wp P o a w K Q else E := by
 have hw : Region.wanted o (yielded ops a.tmps) = true := by simp [Region.wanted, hgd]
 rw [zl hw]
 obtain ⟨v', w', hrun, h2, h3, h4⟩ := run_append_sl (P := P) w B t o.type e i z size bytes ht hi hz hsize hby hzs hsz v n xs hown B' A m c news hl hr h1 h63 hbytes hB
 unfold Oper.wp execOp
 simp only [ho, resolve, invoke, builtin, Sem.run_bind, Sem.run_pure, Result.andThen_ok, List.map_toArray, zW, List.map_nil, hs, hx, hrun]
 exact h v' w' h2 h3 h4
def BeginPost (w : World) (id : Nat) (e : Ending) (w' : World) : Prop := ∃ v bs, e = .returned (.tuple #[v, .int .i64 0]) ∧ bs = codes [1, 0, 0, id] ++ FieldM.text [] ∧ Sl w' w.heap.size 5 1 v bs.length (bs.map bv) ∧ Fresh w w'
theorem encode_begin (w : World) (id : Nat) (hid : id ≤ 1000) :
 Calls Tryz.prog 20 #[.agg #[.int .i64 1, .int .i64 0, .int .i64 0, .int .i64 (id : Int), .slice none 0 0]] w fun e w' => BeginPost w id e w' := by
 obtain ⟨i0, hi, hz0, hz1, hz2⟩ := info_parts info_u8
 go_in
 go_wp2_with fail
 obtain ⟨w0, hw0⟩ : ∃ w0, w.alloc (.cells #[.int .i64 1, .int .i64 0, .int .i64 0, .int .i64 (id : Int), .slice none 0 0] 67) = w0 := ⟨_, rfl⟩
 rw [hw0]
 have HF0 : Hid (Fresh w w0) := zh (by rw [← hw0]; exact (za _ _).alloc _)
 have BX : Hid (Blk w0 w.heap.size 67 #[.int .i64 1, .int .i64 0, .int .i64 0, .int .i64 (id : Int), .slice none 0 0]) := zh (by rw [← hw0]; exact Blk.new w _ _)
 clear hw0
 refine (right_begin w0 id hid).mono ?_
 rintro e w1 ⟨rfl, f1⟩
 have HF1 := zh (HF0.out.trans f1)
 have CELL : Hid (∀ w', Fresh w1 w' → w'.cell? ⟨w.heap.size, 0, none⟩ = some (.int .i64 1) ∧ w'.cell? ⟨w.heap.size, 1, none⟩ = some (.int .i64 0) ∧ w'.cell? ⟨w.heap.size, 2, none⟩ = some (.int .i64 0) ∧ w'.cell? ⟨w.heap.size, 3, none⟩ = some (.int .i64 (id : Int)) ∧ w'.cell? ⟨w.heap.size, 4, none⟩ = some (.slice none 0 0)) := zh fun w' F => by
  have k := BX.out.frm (f1.trans F) (fun f => f)
  exact ⟨k.cell 0, k.cell 1, k.cell 2, k.cell 3, k.cell 4⟩
 obtain ⟨W, hW⟩ : ∃ W, W = (w1.alloc (.cells #[.int .i64 1, .int .i64 0, .int .i64 0, .int .i64 (id : Int)] 3)).drew := ⟨_, rfl⟩
 have HW : Hid (Fresh w1 W) := zh (by rw [hW]; exact ((za _ w1).alloc _).drew)
 have R : Rd W W.heap.size (some ⟨w1.heap.size, 0, none⟩) ([1, 0, 0, id].map nv) := by
  rw [hW]
  exact ((jL w1 ([1, 0, 0, id].map nv) 3).drew).more (by simp)
 have HN := zh (numbers_any W (some ⟨w1.heap.size, 0, none⟩) 4 [1, 0, 0, id] R (by simp) (by
  intro n hn
  simp at hn
  omega))
 have HCL := codes_len [1, 0, 0, id] (by
  intro n hn
  simp at hn
  omega)
 have HTL : (FieldM.text []).length ≤ 100 := by decide
 simp only [zG, zX] at HCL
 have hsz1 := HF1.out.size
 have HT : Hid (∀ w, Calls Tryz.prog 37 #[.slice none 0 0] w fun e w' => ∃ v, e = .returned v ∧ Sl w' w.heap.size 5 1 v (FieldM.text []).length ((FieldM.text []).map bv) ∧ Fresh w w') := zh fun w => text_any none 0 [] w (Rd.nil _ _ _) (by simp)
 generalize hcs : codes [1, 0, 0, id] = cs at HN HCL
 generalize hts : FieldM.text [] = ts at HT HTL
 have HCS := zh hcs
 have HTS := zh hts
 clear hcs hts R f1
 go_wp2_with fail
 go_region_held3 (fun w' => w'.cell? ⟨w.heap.size, 0, none⟩ = some (.int .i64 1) ∧ w'.cell? ⟨w.heap.size, 1, none⟩ = some (.int .i64 0) ∧ w'.cell? ⟨w.heap.size, 2, none⟩ = some (.int .i64 0) ∧ w'.cell? ⟨w.heap.size, 3, none⟩ = some (.int .i64 (id : Int)) ∧ w'.cell? ⟨w.heap.size, 4, none⟩ = some (.slice none 0 0))
  (first | exact CELL.out _ (za _ _) | exact CELL.out _ ((za _ _).drew) | exact CELL.out _ HW.out | exact CELL.out _ (((za _ w1).alloc _).drew) | exact CELL.out _ (HW.out.trans HF3.out) | exact CELL.out _ ((HW.out.trans HF3.out).trans HF4.out) | exact CELL.out _ HF5.out)
  (first
   | (go_at_call 36; rw [← hW]; show Calls _ _ #[Value.slice (some ⟨w1.heap.size, 0, none⟩) 4 4] W _; refine HN.out.mono ?_; rintro e w3 ⟨v3, rfl, hs3, f3⟩; have HS3 := zh hs3; have HF3 := zh f3; clear hs3 f3)
   | (go_at_call 37; show Calls _ _ #[Value.slice none 0 0] w3 _; refine (HT.out w3).mono ?_; rintro e w4 ⟨v4, rfl, hs4, f4⟩; have HS4 := zh hs4; have HF4 := zh f4; obtain ⟨A4, c4, rfl, _⟩ := hs4.shape; clear hs4 f4; have HSA := zh (HS3.out.fresh HF4.out))
   | (refine cl_step_append_sl (by rfl) (.tmp 16) (.tmp 19) 39 (by rfl) W.heap.size 5 i0 _ 1 1 Tryz.underlying39 hi hz0 hz1 hz2 rfl (by omega) v3 cs.length (cs.map bv) (by rfl) HSA.out _ A4 ts.length c4 (ts.map bv) (by rfl) (by rw [zB, Nat.mul_one]) HS4.out.rd (bv_one _) (by unfold maxLen; omega) (by omega) (HF3.out.trans HF4.out).size ?_; intro v5 w5 hs5 hf5 ha5; have HF5 : Hid (Fresh w1 w5) := zh (((HW.out.trans HF3.out).trans HF4.out).trans' hf5 (fun i hi hk => by have := (HSA.out.lt _ hk).1; have := HW.out.size; omega)); have HS5 := zh hs5; clear hs5 hf5 ha5))
 go_wp2_with fail
 go_ret2
 exact ⟨_, _, rfl, rfl, by rw [HCS.out, HTS.out, zg, zn]; exact HS5.out.less (by have := HW.out.size; omega), HF1.out.trans HF5.out⟩
end
section
open Go.RowKit
theorem cl_info_int : (Tryz.prog.info? 3).map (fun i => (i.zero, i.size, i.bytes)) = some (some (.int .i64 0), 1, 8) := by kernel_rfl
theorem cl_iv_one (l : List Int) : ∀ u ∈ l.map civ, u.oneCell' = true := by
 intro u hu
 obtain ⟨_, _, rfl⟩ := zQ.1 hu
 rfl
theorem cl_nil_no (w : World) (a : Addr) (n c : Nat) : (binOp .eql 26 (.slice (some a) n c) (.slice none 0 0)).run Tryz.prog w = .ok (.bool false) w := by
 first | rfl | kernel_rfl | (simp [binOp, go_sem, Tryz.underlying26])
theorem cl_clone_any (w : World) (B : Option Addr) (cb : Nat) (s : List Int) (hs : Rd w w.heap.size B (s.map civ)) (hl : s.length ≤ 15) (hp : 0 < s.length) (hc : s.length ≤ cb) (hm : cb ≤ maxLen) :
 Calls Tryz.prog 17 #[.slice B s.length cb] w fun e w' => ∃ v, e = .returned v ∧ Sl w' w.heap.size 3 1 v s.length (s.map civ) ∧ Fresh w w' := by
 unfold maxLen at hm
 obtain ⟨bB, oB, rfl, _⟩ := hs.at_ (k := 0) (by simpa using hp)
 obtain ⟨i0, hi, hz0, hz1, hz2⟩ := info_parts cl_info_int
 have HS := zh hs
 clear hs
 have hnn := fun w n c => cl_nil_no w ⟨bB, oB, none⟩ n c
 go_in
 have S0 := zh (show Sl (w.alloc (.cells #[] 3)) w.heap.size 3 1 (.slice (some ⟨w.heap.size, 0, none⟩) 0 0) 0 [] from sl_new w _ [] _ (zf _) (by simp [maxLen]))
 have f0 : Fresh w (w.alloc (.cells #[] 3)) := (za _ w).alloc _
 go_wp2_with (first
  | (at_builtin; refine jD _ rfl (.tmp 5) (.tmp 6) _ rfl w.heap.size 3 i0 _ 1 8 Tryz.underlying26 hi hz0 hz1 hz2 rfl (by omega) _ _ _ rfl S0.out _ _ _ _ _ rfl (by simp) (HS.out.alloc (zf _) _) (cl_iv_one _) (by unfold maxLen; omega) (by omega) (by simp) ?_; intro v1 w2 hs1 hf1 ha1))
 have F2 : Fresh w w2 := f0.trans' hf1 (fun i hi hk => by have := own_at hk; omega)
 rw [Nat.zero_add, List.nil_append] at hs1
 go_wp2_with fail
 go_ret
 exact ⟨_, rfl, hs1, F2⟩
abbrev DU : Type := DataW Unit
def clCells (id : Nat) (A : Option Addr) (nc n a wt gv mb : Nat) : Array Value :=
 #[.int .i64 (id : Int), .slice A n nc, .slice none 0 0, .int .i64 (a : Int), .int .i64 (wt : Int), .int .i64 0, .int .i64 1, .int .i64 (gv : Int), .map (some mb), .slice none 0 0, .bool false, .int .i64 0]
structure Cl (w : World) (B b mb id : Nat) (A : Option Addr) (nc : Nat) (l : List Int) (a wt gv : Nat) : Prop where
 blk : Blk w b 57 (clCells id A nc l.length a wt gv mb)
 om : ∃ n, ∃ D : DU, w.ownsMap Tryz.prog 3 (plainElem Tryz.prog 4) mb n D ∧ n ≤ gv
 sl : Sl w B 3 1 (.slice A l.length nc) l.length (l.map civ)
 bge : B ≤ b
 mge : B ≤ mb
 pos : a < l.length
def ClNewPost (w : World) (id : Nat) (l : List Int) (e : Ending) (w' : World) : Prop :=
 ∃ b mb A nc, e = .returned (.tuple #[.pointer (some ⟨b, 0, none⟩), .int .i64 0]) ∧ Cl w' w.heap.size b mb id A nc l 0 0 0 ∧ Fresh w w'
theorem new_yes (w : World) (id : Nat) (A : Option Addr) (cap : Nat) (l : List Int) (hA : Rd w w.heap.size A (l.map civ)) (h1 : 1 ≤ id) (h2 : id ≤ 1000) (h3 : 1 ≤ l.length) (h4 : l.length ≤ 15) (h5 : l.any oddNode = false) (hc : l.length ≤ cap) (hm : cap ≤ maxLen) :
 Calls Tryz.prog 6 #[.int .i64 (id : Int), .slice A l.length cap, .slice none 0 0] w fun e w' => ClNewPost w id l e w' := by
 have H := jM _ _ oddNode_tests w A cap l hA (by omega)
 rw [h5] at H
 have HC := zh H
 have HCL := zh (cl_clone_any w A cap l hA h4 (by omega) hc hm)
 have hmm := @run_makeMap Tryz.prog
 have h1i : ¬ (id : Int) < 1 := by omega
 have h2i : ¬ (1000 : Int) < (id : Int) := by omega
 have h3i : ¬ (l.length : Int) < 1 := by omega
 have h4i : ¬ (15 : Int) < (l.length : Int) := by omega
 clear H h5
 go_in
 go_wp2_with fail
 refine HC.out.mono ?_
 rintro e w' ⟨rfl, hw'⟩
 rw [hw']
 clear hw' w'
 go_wp2_with fail
 refine (containsNone_any _ w 0 none).mono ?_
 rintro e w' ⟨rfl, hw'⟩
 rw [hw']
 clear hw' w'
 go_wp2_with fail
 refine HCL.out.mono ?_
 rintro e w1 ⟨v1, rfl, hs1, f1⟩
 obtain ⟨A1, c1, rfl, _⟩ := hs1.shape
 have HF1 := zh f1
 have hsz := f1.size
 have HS1 := zh hs1
 clear hs1 f1
 go_wp2_with fail
 go_loopw [52] (fun v52 wr => v52 = .int .i64 0 ∧ wr = (w1.alloc (.map #[] 0)).alloc (.cells (clCells id A1 c1 l.length 0 0 0 w1.heap.size) 57)) (fun _ _ => 0)
 case atStart => exact ⟨rfl, rfl⟩
 case round =>
  obtain ⟨rfl, hwr⟩ := hrel
  have HCL2 : Hid (Cl wr w.heap.size (w1.heap.size + 1) w1.heap.size id A1 c1 l 0 0 0) := zh (by
   rw [hwr]
   refine ⟨?_, ⟨0, .map [], (World.ownsMap_made w1 _ _ _).alloc _, zf _⟩, (HS1.out.alloc _).alloc _, by omega, by omega, by omega⟩
   have := Blk.new (w1.alloc (.map #[] 0)) 57 (clCells id A1 c1 l.length 0 0 0 w1.heap.size)
   rwa [zJ] at this)
  have HF2 : Hid (Fresh w wr) := zh (by rw [hwr]; exact (HF1.out.alloc _).alloc _)
  clear hwr
  go_wp2_with fail
  go_ret2
  exact ⟨_, _, _, _, rfl, HCL2.out, HF2.out⟩
end
section
open Go.RowKit
section
variable {w w' : World} {B b mb id : Nat} {A : Option Addr} {nc : Nat} {l : List Int} {a wt gv : Nat}
theorem Cl.frm {S : Nat → Prop} (h : Cl w B b mb id A nc l a wt gv) (F : Frm S w w') (h1 : ¬ S b) (h2 : ¬ S mb) (h3 : ∀ k, (Value.slice A l.length nc).ownBlock = some k → ¬ S k) : Cl w' B b mb id A nc l a wt gv := by
 obtain ⟨n, D, ho, hn⟩ := h.om
 exact ⟨h.blk.frm F h1, ⟨n, D, OM.frm ho F h2, hn⟩, h.sl.frm F h3, h.bge, h.mge, h.pos⟩
theorem Cl.fresh (h : Cl w B b mb id A nc l a wt gv) (F : Fresh w w') : Cl w' B b mb id A nc l a wt gv := h.frm F (fun f => f) (fun f => f) (fun _ _ f => f)
theorem Cl.ne (h : Cl w B b mb id A nc l a wt gv) : mb ≠ b := by
 obtain ⟨n, D, ho, _⟩ := h.om
 exact OM.not_cells ho h.blk
theorem Cl.own_b (h : Cl w B b mb id A nc l a wt gv) : (Value.slice A l.length nc).ownBlock ≠ some b := h.sl.apart h.blk (by decide)
theorem Cl.own_m (h : Cl w B b mb id A nc l a wt gv) : (Value.slice A l.length nc).ownBlock ≠ some mb := by
 obtain ⟨n, D, ho, _⟩ := h.om
 exact OM.not_sl ho h.sl
theorem Cl.set (h : Cl w B b mb id A nc l a wt gv) {i : Nat} {u : Value} {a' wt' gv' : Nat} (hc : (clCells id A nc l.length a wt gv mb).setIfInBounds i u = clCells id A nc l.length a' wt' gv' mb) (hp : a' < l.length) (hg : gv ≤ gv') :
 Cl (w.setCell ⟨b, i, none⟩ u) B b mb id A nc l a' wt' gv' := by
 obtain ⟨n, D, ho, hn⟩ := h.om
 have F : Frm (fun k => k = b) w (w.setCell ⟨b, i, none⟩ u) := Frm.setCell (za (fun k => k = b) w) (p := ⟨b, i, none⟩) (fun _ => rfl) u
 refine ⟨by have := h.blk.set i u; rw [hc] at this; exact this, ⟨n, D, OM.frm ho F h.ne, by omega⟩, h.sl.frm F (fun k hk e => ?_), h.bge, h.mge, hp⟩
 subst e
 exact h.own_b hk
end
def ReqPost (w : World) (id : Nat) (e : Ending) (w' : World) : Prop := e = .returned (.agg #[.int .i64 1, .int .i64 0, .int .i64 0, .int .i64 (id : Int), .slice none 0 0]) ∧ Fresh w w'
theorem request_any (w : World) (B b mb id : Nat) (A : Option Addr) (nc : Nat) (l : List Int) (a wt gv : Nat) (h : Cl w B b mb id A nc l a wt gv) :
 Calls Tryz.prog 21 #[.pointer (some ⟨b, 0, none⟩)] w fun e w' => ReqPost w id e w' := by
 have c0 : w.cell? ⟨b, 0, none⟩ = some (.int .i64 (id : Int)) := h.blk.cell 0
 have c5 : w.cell? ⟨b, 5, none⟩ = some (.int .i64 0) := h.blk.cell 5
 have hlt := h.blk.lt
 have HF : Hid (∀ o, Fresh w (w.alloc o)) := zh fun o => (za _ w).alloc o
 clear h
 go_in
 go_wp2_with fail
 exact zi (v := .agg #[.int .i64 1, .int .i64 0, .int .i64 0, .int .i64 (id : Int), .slice none 0 0]) (by simp [results, Tryz.results21, go_sem]) rfl ⟨rfl, HF.out _⟩
def atK (l : List Int) (k : Nat) : Int := l.getD k 0
theorem atK_get {l : List Int} {k : Nat} (h : k < l.length) : atK l k = l[k] := by simp [atK, List.getD, h]
def WantPost (w : World) (B b mb id : Nat) (A : Option Addr) (nc : Nat) (l : List Int) (a wt gv : Nat) (e : Ending) (w' : World) : Prop :=
 ∃ (v : Value) (bs : List UInt8), e = .returned (.tuple #[.int .i64 (atK l a), .int .i64 ((id : Int) * 1048576 + (gv : Int)), v, .bool true]) ∧ Sl w' w.heap.size 5 1 v bs.length (bs.map bv) ∧ 0 < bs.length ∧ Cl w' B b mb id A nc l a wt (gv + 1) ∧ Frm (fun k => k = b ∨ k = mb) w w'
set_option maxRecDepth 100000 in
theorem want_any (w : World) (B b mb id : Nat) (A : Option Addr) (nc : Nat) (l : List Int) (a wt gv : Nat) (h : Cl w B b mb id A nc l a wt gv) (hid : id ≤ 1000) (hg : gv ≤ 1000) (hl : l.length ≤ 15) :
 Calls Tryz.prog 8 #[.pointer (some ⟨b, 0, none⟩)] w fun e w' => WantPost w B b mb id A nc l a wt gv e w' := by
 have HC := zh h
 have hpos := h.pos
 have c0 : ∀ n, (w.drewN n).cell? ⟨b, 0, none⟩ = some (.int .i64 (id : Int)) := fun _ => h.blk.cell 0
 have c7 : ∀ n, (w.drewN n).cell? ⟨b, 7, none⟩ = some (.int .i64 (gv : Int)) := fun _ => h.blk.cell 7
 have p7 : w.cell? ⟨b, 7, none⟩ = some (.int .i64 (gv : Int)) := h.blk.cell 7
 have p10 : w.cell? ⟨b, 10, none⟩ = some (.bool false) := h.blk.cell 10
 have K := Maps.int_keyed Tryz.underlying3
 have hw1 : IntKind.i64.wrap ((id : Int) * 1048576) = (id : Int) * 1048576 := zm _ (by omega)
 have hw2 : IntKind.i64.wrap ((id : Int) * 1048576 + (gv : Int)) = (id : Int) * 1048576 + (gv : Int) := zm _ (by omega)
 have hg1 : ¬ (1048576 : Int) ≤ (gv : Int) := by omega
 have hg2 : (0 : Int) ≤ (gv : Int) := by omega
 have hg3 : (gv : Int) ≤ 1000 := by omega
 have HKEY : Hid (keyOf Tryz.prog 3 (.int .i64 ((id : Int) * 1048576 + (gv : Int))) = some (.int .i64 ((id : Int) * 1048576 + (gv : Int)))) := zh (Maps.keyOf_int_mk Tryz.underlying3 (by
  have : -9223372036854775808 ≤ (id : Int) * 1048576 + (gv : Int) ∧ (id : Int) * 1048576 + (gv : Int) ≤ 9223372036854775807 := by omega
  simpa [Lit.wf, IntKind.min, IntKind.max, IntKind.signed, IntKind.bits] using this))
 clear h
 go_in
 go_wp2_with fail
 go_quiet (fail)
 rename_i nq
 obtain ⟨w1, hw1'⟩ : ∃ w1, w.drewN nq = w1 := ⟨_, rfl⟩
 rw [hw1']
 have HC1 : Hid (Cl w1 B b mb id A nc l a wt gv) := zh (by rw [← hw1']; exact HC.out.fresh ((za _ w).drewN nq))
 have HF1 : Hid (Fresh w w1) := zh (by rw [← hw1']; exact (za _ w).drewN nq)
 clear hw1' hw1 hw2 c0 c7 p7 p10
 have p7 : w1.cell? ⟨b, 7, none⟩ = some (.int .i64 (gv : Int)) := HC1.out.blk.cell 7
 have z7 := HC1.out.blk.frozen 7
 have hset : (clCells id A nc l.length a wt gv mb).setIfInBounds 7 (.int .i64 ((gv : Int) + 1)) = clCells id A nc l.length a wt (gv + 1) mb := rfl
 obtain ⟨w2, hw2⟩ : ∃ w2, w2 = w1.setCell ⟨b, 7, none⟩ (.int .i64 ((gv : Int) + 1)) := ⟨_, rfl⟩
 have HC2 : Hid (Cl w2 B b mb id A nc l a wt (gv + 1)) := zh (by rw [hw2]; exact HC1.out.set hset hpos (by omega))
 have HF2 : Hid (Frm (fun k => k = b ∨ k = mb) w w2) := zh (by rw [hw2]; exact (Fresh.frm HF1.out).setCell (p := ⟨b, 7, none⟩) (fun _ => .inl rfl) _)
 have q8 : w2.cell? ⟨b, 8, none⟩ = some (.map (some mb)) := HC2.out.blk.cell 8
 rw [hw2] at q8
 obtain ⟨n, D, ho, hn⟩ := HC2.out.om
 have HO := zh ho
 have HN : Hid (∃ m, ∃ D' : DU, w2.ownsMap Tryz.prog 3 (plainElem Tryz.prog 4) mb m D' ∧ m ≤ gv) := zh (by
  obtain ⟨n0, D0, h0, hn0⟩ := HC1.out.om
  refine ⟨n0, D0, ?_, hn0⟩
  rw [hw2]
  exact OM.frm h0 (Frm.setCell (za (fun k => k = b) w1) (p := ⟨b, 7, none⟩) (fun _ => rfl) _) HC1.out.ne)
 clear ho HO
 obtain ⟨m, D', ho, hm⟩ := HN.out
 rw [hw2] at ho
 have HO := zh ho
 have hmax : m < maxLen := by unfold maxLen; omega
 clear ho
 go_wp2_with (at_mapUpdate; refine wpList_mapUpdate_own _ rfl _ _ _ 55 rfl 3 4 K Tryz.underlying55 _ mb m D' rfl HO.out hmax _ _ _ rfl rfl HKEY.out (.lit (.bool true)) [] (plainElem_bool Tryz.underlying4 true) ?_; rw [← hw2]; intro w3 om3 g3)
 have F3 : Frm (fun k => some mb = some k) w2 w3 := Frm.of_grown g3
 have HC3 : Hid (Cl w3 B b mb id A nc l a wt (gv + 1)) := zh ⟨HC2.out.blk.frm F3 (fun e => HC2.out.ne (zE e)), ⟨m + 1, _, om3, by omega⟩, HC2.out.sl.frm F3 (fun k hk e => HC2.out.own_m (by rw [e]; exact hk)), HC2.out.bge, HC2.out.mge, hpos⟩
 have HF3 : Hid (Frm (fun k => k = b ∨ k = mb) w w3) := zh (HF2.out.trans' F3 (fun k _ e => .inr (zE e).symm))
 have HRQ := zh (request_any w3 B b mb id A nc l a wt (gv + 1) HC3.out)
 clear om3 g3 F3 q8 hw2 p7 z7 hset
 go_wp2_with fail
 refine HRQ.out.mono ?_
 rintro e w4 ⟨rfl, f4⟩
 have HC4 := zh (HC3.out.fresh f4)
 have HF4 := zh (HF3.out.trans (Fresh.frm f4))
 clear f4
 go_wp2_with fail
 refine (encode_begin w4 id hid).mono ?_
 rintro e w5 ⟨v5, bs, rfl, hbs, hs5, f5⟩
 have HC5 := zh (HC4.out.fresh f5)
 have HF5 := zh (HF4.out.trans (Fresh.frm f5))
 have HS5 := zh (hs5.less HF4.out.size)
 have HBS : Hid (0 < bs.length) := zh (by
  rw [hbs, codes, zq, List.append_assoc, zg, FieldM.num_length]
  omega)
 obtain ⟨A5, c5, rfl, _⟩ := hs5.shape
 clear f5 hbs hs5
 have r1 : ∀ n, (w5.drewN n).cell? ⟨b, 1, none⟩ = some (.slice A l.length nc) := fun _ => HC5.out.blk.cell 1
 have r3 : ∀ n, (w5.drewN n).cell? ⟨b, 3, none⟩ = some (.int .i64 (a : Int)) := fun _ => HC5.out.blk.cell 3
 obtain ⟨bA, oA, rfl, _, hcA⟩ := HC5.out.sl.rd.at_ (k := a) (by simpa using hpos)
 rw [List.getElem_map, ← atK_get hpos] at hcA
 have rA : ∀ n, (w5.drewN n).cell? ⟨bA, oA + a, none⟩ = some (.int .i64 (atK l a)) := fun _ => hcA
 have ha0 : (0 : Int) ≤ (a : Int) := by omega
 have ha1 : (a : Int) < (l.length : Int) := by omega
 clear hcA
 go_wp2_with fail
 go_quiet (fail)
 go_wp2_with fail
 exact zi (v := .tuple #[.int .i64 (atK l a), .int .i64 ((id : Int) * 1048576 + (gv : Int)), .slice A5 bs.length c5, .bool true]) (by simp [results, Tryz.results8, go_sem]) rfl ⟨_, bs, rfl, HS5.out.drewN _, HBS.out, HC5.out.fresh ((za _ w5).drewN _), HF5.out.drewN _⟩
end
section
open Go.RowKit
theorem awake_any (w : World) : Calls Tryz.prog 4 #[] w fun e w' => e = .returned (.bool true) ∧ Fresh w w' := by
 obtain ⟨W, hW⟩ : ∃ W, W = w.alloc (.cells #[.int .i64 1, .int .i64 2] 3) := ⟨_, rfl⟩
 have R : Rd W W.heap.size (some ⟨w.heap.size, 0, none⟩) ([1, 2].map civ) := by
  rw [hW]
  exact (jL w ([1, 2].map civ) 3).more (by simp)
 have HFW : Hid (Fresh w W) := zh (by rw [hW]; exact (za _ w).alloc _)
 have HN := zh (new_yes W 7 (some ⟨w.heap.size, 0, none⟩) 2 [1, 2] R (by omega) (by omega) (by simp) (by simp) (by decide) (by simp) (by simp [maxLen]))
 clear R
 go_in
 go_wp2_with fail
 rw [← hW]
 refine HN.out.mono ?_
 rintro e w1 ⟨b, mb, A, nc, rfl, hc, f1⟩
 have HF1 := zh (HFW.out.trans f1)
 have HC := zh hc
 have HWN := zh (want_any w1 _ b mb 7 A nc [1, 2] 0 0 0 hc (by omega) (by omega) (by simp))
 clear hW f1 hc
 go_wp2_with fail
 refine HWN.out.mono ?_
 rintro e w2 ⟨v, bs, rfl, hs, hb, _, f2⟩
 have HF2 : Hid (Fresh w w2) := zh (HF1.out.trans' f2 (fun k hk hh => by
  have h1 := HC.out.bge
  have h2 := HC.out.mge
  have h3 := HFW.out.size
  rcases hh with e | e <;> omega))
 obtain ⟨A2, c2, rfl, _⟩ := hs.shape
 have hbi : (0 : Int) < (bs.length : Int) := by omega
 clear hs f2
 rw [show atK [1, 2] 0 = 1 from rfl]
 go_wp2_with fail
 go_ret
 exact ⟨rfl, HF2.out⟩
abbrev ivs (l : List Int) : List Value := l.map (Value.int .i64)
theorem ret_b {a b : Bool} (h : a = b) : Ending.returned (.bool a) = .returned (.bool b) := by rw [h]
theorem ret_z {a b : Int} (h : a = b) : Ending.returned (.int .i64 a) = .returned (.int .i64 b) := by rw [h]
def small (gs : List Int) : Prop := gs.length ≤ 16 ∧ ∀ g ∈ gs, 0 ≤ g ∧ g ≤ 9999
theorem sum_take {gs : List Int} {i : Nat} (h : i < gs.length) : (gs.take (i + 1)).sum = (gs.take i).sum + gs[i] := by
 rw [zu h, List.sum_append]
 simp
theorem sum_small : ∀ (gs : List Int), (∀ g ∈ gs, 0 ≤ g ∧ g ≤ 9999) → 0 ≤ gs.sum ∧ gs.sum ≤ 9999 * (gs.length : Int)
 | [], _ => by simp
 | g :: r, h => by
  have h1 := h g (by simp)
  have h2 := sum_small r (fun x hx => h x (List.mem_cons_of_mem _ hx))
  rw [List.sum_cons, zG]
  omega
theorem across_any (w : World) (r : Int) (A : Option Addr) (c : Nat) (gs : List Int) (hA : Rd w w.heap.size A (ivs gs)) (hs : small gs) :
 Calls Tryz.prog 116 #[.agg #[.int .i64 r, .slice A gs.length c]] w fun e w' => e = .returned (.int .i64 gs.sum) ∧ Fresh w w' := by
 obtain ⟨W, hW⟩ : ∃ W, w.alloc (.cells #[.int .i64 r, .slice A gs.length c] 92) = W := ⟨_, rfl⟩
 have hFW : Fresh w W := by rw [← hW]; exact (za _ w).alloc _
 have hBX : Blk W w.heap.size 92 #[.int .i64 r, .slice A gs.length c] := by rw [← hW]; exact Blk.new w _ _
 have HF := zh hFW
 have y1 : W.cell? ⟨w.heap.size, 1, none⟩ = some (.slice A gs.length c) := hBX.cell 1
 have HA := zh (hA.fresh (zf _) hFW)
 have HS := zh hs
 have hl := hs.1
 clear hFW hBX hA hs
 go_in
 go_wp2_with fail
 try rw [hW]
 clear hW
 go_loopw [3, 4] (fun v3 v4 wr => ∃ i : Nat, i ≤ gs.length ∧ v3 = .int .i64 (gs.take i).sum ∧ v4 = .int .i64 (i : Int) ∧ wr = W) (fun _ v4 _ => gs.length - (intOf v4).toNat)
 case atStart => exact ⟨0, by omega, rfl, rfl, rfl⟩
 case round =>
  obtain ⟨i, hi, rfl, rfl, rfl⟩ := hrel
  have hi0 : (0 : Int) ≤ (i : Int) := by omega
  by_cases hlt : i < gs.length
  ·have hlti : (i : Int) < (gs.length : Int) := by omega
   obtain ⟨b, o, rfl, _, hc⟩ := HA.out.at_ (k := i) (by simpa using hlt)
   rw [List.getElem_map] at hc
   have HST := zh (sum_take hlt)
   have h1 := HS.out.2 _ (ze hlt)
   have h2 := sum_small (gs.take i) (fun x hx => HS.out.2 x (List.mem_of_mem_take hx))
   have h3 : (gs.take i).length = i := by rw [zw]; omega
   rw [h3] at h2
   generalize gs[i] = x at hc HST h1
   generalize (gs.take i).sum = s at HST h2
   have hw : IntKind.i64.wrap (s + x) = s + x := zm _ (by omega)
   clear h3
   go_wp2_with fail
   go_roundw
   case rel => exact ⟨i + 1, by omega, by rw [HST.out], by go_num, by first | rfl | trivial⟩
   case measure => simp [intOf]; omega
  ·have hlti : ¬ (i : Int) < (gs.length : Int) := by omega
   have HE : Hid ((gs.take i).sum = gs.sum) := zh (by rw [zD (by omega)])
   go_wp2_with fail
   go_ret
   exact ⟨ret_z HE.out, HF.out⟩
def jU (r : Int) (gs : List Int) : Bool := decide ((1 ≤ r ∧ r ≤ 60) ∧ (1 ≤ gs.length ∧ gs.length ≤ 4) ∧ (∀ g ∈ gs, 1 ≤ g ∧ g ≤ 10) ∧ gs.sum ≤ 10)
def qJ (r : Int) (gs : List Int) : Int := if jU r gs = true then r * gs.sum else 0
theorem rightL_no {r : Int} {gs : List Int} (h : ¬ ((1 ≤ r ∧ r ≤ 60) ∧ (1 ≤ gs.length ∧ gs.length ≤ 4) ∧ (∀ g ∈ gs, 1 ≤ g ∧ g ≤ 10))) : jU r gs = false := zb (fun k => h ⟨k.1, k.2.1, k.2.2.1⟩)
theorem rightL_yes {r : Int} {gs : List Int} (h : (1 ≤ r ∧ r ≤ 60) ∧ (1 ≤ gs.length ∧ gs.length ≤ 4) ∧ (∀ g ∈ gs, 1 ≤ g ∧ g ≤ 10)) : jU r gs = decide (gs.sum ≤ 10) := by
 unfold jU
 by_cases k : gs.sum ≤ 10
 ·rw [zc k]; exact zc ⟨h.1, h.2.1, h.2.2, k⟩
 ·rw [zb k]; exact zb (fun e => k e.2.2.2)
theorem rightL_of {r : Int} {gs : List Int} (h : jU r gs = true) : (1 ≤ r ∧ r ≤ 60) ∧ (1 ≤ gs.length ∧ gs.length ≤ 4) ∧ (∀ g ∈ gs, 1 ≤ g ∧ g ≤ 10) ∧ gs.sum ≤ 10 := zY h
theorem ten_take {gs : List Int} {i : Nat} (h : i < gs.length) (hn : ∀ g ∈ gs.take i, 1 ≤ g ∧ g ≤ 10) (hx : 1 ≤ gs[i] ∧ gs[i] ≤ 10) : ∀ g ∈ gs.take (i + 1), 1 ≤ g ∧ g ≤ 10 := by
 rw [zu h]
 intro g hg
 rcases zy.1 hg with hg | hg
 ·exact hn g hg
 ·rw [zO] at hg
  rw [hg]
  exact hx
theorem rightL_any (w : World) (r : Int) (A : Option Addr) (c : Nat) (gs : List Int) (hA : Rd w w.heap.size A (ivs gs)) (hs : small gs) :
 Calls Tryz.prog 118 #[.agg #[.int .i64 r, .slice A gs.length c]] w fun e w' => e = .returned (.bool (jU r gs)) ∧ Fresh w w' := by
 obtain ⟨W, hW⟩ : ∃ W, w.alloc (.cells #[.int .i64 r, .slice A gs.length c] 92) = W := ⟨_, rfl⟩
 have hFW : Fresh w W := by rw [← hW]; exact (za _ w).alloc _
 have hBX : Blk W w.heap.size 92 #[.int .i64 r, .slice A gs.length c] := by rw [← hW]; exact Blk.new w _ _
 have HF := zh hFW
 have y0 : W.cell? ⟨w.heap.size, 0, none⟩ = some (.int .i64 r) := hBX.cell 0
 have y1 : W.cell? ⟨w.heap.size, 1, none⟩ = some (.slice A gs.length c) := hBX.cell 1
 have hA2 := hA.fresh (zf _) hFW
 have HAC := zh (across_any W r A c gs (hA2.more hFW.size) hs)
 have HA := zh hA2
 have HS := zh hs
 have hl := hs.1
 obtain ⟨n, hn⟩ : ∃ n, n = gs.length := ⟨_, rfl⟩
 rw [← hn] at y1 hl HAC hW ⊢
 have HN := zh hn
 clear hFW hBX hA hA2 hs hn
 by_cases c0 : 1 ≤ r
 ·by_cases c1 : r ≤ 60
  ·by_cases c2 : 1 ≤ (n : Int)
   ·by_cases c3 : (n : Int) ≤ 4
    ·have d0 : decide (r < 1) = false := zb (by omega)
     have d1 : decide (60 < r) = false := zb (by omega)
     have d2 : decide ((n : Int) < 1) = false := zb (by omega)
     have d3 : decide (4 < (n : Int)) = false := zb (by omega)
     go_in
     go_wp2_with fail
     try rw [hW]
     clear hW
     go_loopw [3] (fun v3 wr => ∃ i : Nat, i ≤ n ∧ v3 = .int .i64 (i : Int) ∧ (∀ g ∈ gs.take i, 1 ≤ g ∧ g ≤ 10) ∧ wr = W) (fun v3 _ => n - (intOf v3).toNat)
     case atStart => exact ⟨0, by omega, rfl, fun g hg => by simp at hg, rfl⟩
     case round =>
      obtain ⟨i, hi, rfl, hten, rfl⟩ := hrel
      have hi0 : (0 : Int) ≤ (i : Int) := by omega
      have HT := zh hten
      clear hten
      by_cases hlt : i < n
      ·have hlti : (i : Int) < (n : Int) := by omega
       have hltg : i < gs.length := by rw [← HN.out]; exact hlt
       obtain ⟨b, o, rfl, _, hc⟩ := HA.out.at_ (k := i) (by simpa using hltg)
       rw [List.getElem_map] at hc
       have HM := zh (ze hltg)
       have HST := zh (ten_take hltg HT.out)
       generalize gs[i] = x at hc HM HST
       by_cases e0 : 1 ≤ x
       ·by_cases e1 : x ≤ 10
        ·have f0 : decide (x < 1) = false := zb (by omega)
         have f1 : decide (10 < x) = false := zb (by omega)
         go_wp2_with fail
         go_roundw
         case rel => exact ⟨i + 1, by omega, by go_num, HST.out ⟨e0, e1⟩, by first | rfl | trivial⟩
         case measure => simp [intOf]; omega
        ·have f0 : decide (x < 1) = false := zb (by omega)
         have f1 : decide (10 < x) = true := zc (by omega)
         have HV : Hid (jU r gs = false) := zh (rightL_no (fun k => e1 (k.2.2 _ HM.out).2))
         go_wp2_with fail
         go_ret
         exact ⟨ret_b HV.out.symm, HF.out⟩
       ·have f0 : decide (x < 1) = true := zc (by omega)
        have HV : Hid (jU r gs = false) := zh (rightL_no (fun k => e0 (k.2.2 _ HM.out).1))
        go_wp2_with fail
        go_ret
        exact ⟨ret_b HV.out.symm, HF.out⟩
      ·have hlti : ¬ (i : Int) < (n : Int) := by omega
       have HV : Hid (jU r gs = decide (gs.sum ≤ 10)) := zh (rightL_yes ⟨⟨c0, c1⟩, by have := HN.out; omega, by
        have h := HT.out
        rwa [zD (by have := HN.out; omega)] at h⟩)
       go_wp2_with fail
       refine HAC.out.mono ?_
       rintro e w1 ⟨rfl, f1⟩
       have HF1 := zh (HF.out.trans f1)
       clear f1
       go_wp2_with fail
       go_ret
       exact ⟨ret_b HV.out.symm, HF1.out⟩
    ·have HV : Hid (jU r gs = false) := zh (rightL_no (by have := HN.out; omega))
     have d0 : decide (r < 1) = false := zb (by omega)
     have d1 : decide (60 < r) = false := zb (by omega)
     have d2 : decide ((n : Int) < 1) = false := zb (by omega)
     have d3 : decide (4 < (n : Int)) = true := zc (by omega)
     go_in
     go_wp2_with fail
     go_ret
     exact ⟨ret_b HV.out.symm, HF.out⟩
   ·have HV : Hid (jU r gs = false) := zh (rightL_no (by have := HN.out; omega))
    have d0 : decide (r < 1) = false := zb (by omega)
    have d1 : decide (60 < r) = false := zb (by omega)
    have d2 : decide ((n : Int) < 1) = true := zc (by omega)
    go_in
    go_wp2_with fail
    go_ret
    exact ⟨ret_b HV.out.symm, HF.out⟩
  ·have HV : Hid (jU r gs = false) := zh (rightL_no (by omega))
   have d0 : decide (r < 1) = false := zb (by omega)
   have d1 : decide (60 < r) = true := zc (by omega)
   go_in
   go_wp2_with fail
   go_ret
   exact ⟨ret_b HV.out.symm, HF.out⟩
 ·have HV : Hid (jU r gs = false) := zh (rightL_no (by omega))
  have d0 : decide (r < 1) = true := zc (by omega)
  go_in
  go_wp2_with fail
  go_ret
  exact ⟨ret_b HV.out.symm, HF.out⟩
theorem countL_any (w : World) (r : Int) (A : Option Addr) (c : Nat) (gs : List Int) (hA : Rd w w.heap.size A (ivs gs)) (hs : small gs) :
 Calls Tryz.prog 115 #[.agg #[.int .i64 r, .slice A gs.length c]] w fun e w' => e = .returned (.int .i64 (qJ r gs)) ∧ Fresh w w' := by
 obtain ⟨W, hW⟩ : ∃ W, w.alloc (.cells #[.int .i64 r, .slice A gs.length c] 92) = W := ⟨_, rfl⟩
 have hFW : Fresh w W := by rw [← hW]; exact (za _ w).alloc _
 have hBX : Blk W w.heap.size 92 #[.int .i64 r, .slice A gs.length c] := by rw [← hW]; exact Blk.new w _ _
 have HF := zh hFW
 have y0 : W.cell? ⟨w.heap.size, 0, none⟩ = some (.int .i64 r) := hBX.cell 0
 have y1 : W.cell? ⟨w.heap.size, 1, none⟩ = some (.slice A gs.length c) := hBX.cell 1
 have hA2 := (hA.fresh (zf _) hFW).more hFW.size
 have HRI := zh (rightL_any W r A c gs hA2 hs)
 have HA := zh hA2
 have BX := zh hBX
 have HS := zh hs
 obtain ⟨n, hn⟩ : ∃ n, n = gs.length := ⟨_, rfl⟩
 rw [← hn] at y1 HRI hW BX ⊢
 have HN := zh hn
 obtain ⟨rb, hrb⟩ : ∃ b, b = jU r gs := ⟨_, rfl⟩
 rw [← hrb] at HRI
 have HRB := zh hrb
 clear hFW hBX hA hA2 hs hn hrb
 go_in
 go_wp2_with fail
 try rw [hW]
 clear hW
 refine HRI.out.mono ?_
 rintro e w1 ⟨rfl, f1⟩
 have HF1 := zh (HF.out.trans f1)
 have b1 := BX.out.frm f1 (fun f => f)
 have z0 : w1.cell? ⟨w.heap.size, 0, none⟩ = some (.int .i64 r) := b1.cell 0
 have z1 : w1.cell? ⟨w.heap.size, 1, none⟩ = some (.slice A n c) := b1.cell 1
 have HA1 := zh ((HA.out.fresh (zf _) f1).more f1.size)
 clear f1 b1 y0 y1
 cases rb with
 | false =>
  have HV : Hid (qJ r gs = 0) := zh (by unfold qJ; rw [← HRB.out]; rfl)
  go_wp2_with fail
  go_ret
  exact ⟨ret_z HV.out.symm, HF1.out⟩
 | true =>
  have HV : Hid (qJ r gs = r * gs.sum) := zh (by unfold qJ; rw [← HRB.out]; rfl)
  obtain ⟨⟨q1, q2⟩, _, _, q3⟩ := rightL_of HRB.out.symm
  have q4 := (sum_small gs HS.out.2).1
  have hw : IntKind.i64.wrap (r * gs.sum) = r * gs.sum := zm _ (by
   have h1 : r * gs.sum ≤ 60 * 10 := Int.mul_le_mul q2 q3 q4 (by omega)
   have h2 : 0 ≤ r * gs.sum := Int.mul_nonneg (by omega) q4
   omega)
  have HAC : Hid (Calls Tryz.prog 116 #[.agg #[.int .i64 r, .slice A n c]] w1.drew fun e w' => e = .returned (.int .i64 gs.sum) ∧ Fresh w1.drew w') := zh (by rw [HN.out]; exact across_any w1.drew r A c gs HA1.out.drew HS.out)
  have SS : Hid (w1.drew.cell? ⟨w.heap.size, 0, none⟩ = some (.int .i64 r) ∧ w1.drew.cell? ⟨w.heap.size, 1, none⟩ = some (.slice A n c)) := zh ⟨z0, z1⟩
  have HB1 : Hid (∀ w', Fresh w1.drew w' → w'.cell? ⟨w.heap.size, 0, none⟩ = some (.int .i64 r) ∧ w'.cell? ⟨w.heap.size, 1, none⟩ = some (.slice A n c)) := zh fun w' F =>
   ⟨(F.cell (World.block_lt_of_cell? _ _ SS.out.1) (fun f => f)).trans SS.out.1, (F.cell (World.block_lt_of_cell? _ _ SS.out.2) (fun f => f)).trans SS.out.2⟩
  clear z0 z1
  go_wp2_with fail
  go_region_held3 (fun w' => w'.cell? ⟨w.heap.size, 0, none⟩ = some (.int .i64 r) ∧ w'.cell? ⟨w.heap.size, 1, none⟩ = some (.slice A n c)) (first | exact SS.out | exact HB1.out _ HF2.out)
   (first | (go_at_call 116; show Calls _ _ #[_] w1.drew _; refine HAC.out.mono ?_; rintro e w' ⟨rfl, f2⟩; have HF2 := zh f2; clear f2))
  all_goals first | (go_wp2_with fail; go_ret; exact ⟨ret_z HV.out.symm, (HF1.out.drew).trans HF2.out⟩) | trace_state
def str (bs : List UInt8) : ByteArray := ⟨bs.toArray⟩
theorem str_toList (bs : List UInt8) : (str bs).toList = bs := ByteArray.toList_mk bs
theorem strOfNums_bytes (bs : List UInt8) : strOfNums (bs.map fun b => (b.toNat : Int)) = str bs := by
 unfold strOfNums str
 congr 1
 congr 1
 induction bs with
 | nil => rfl
 | cons b l ih =>
  rw [zW, zW, ih]
  congr 1
  simp
theorem conv_bytes {P : Program} {w : World} (src dst e : TypeId) (hs : P.underlying src = some (.slice e)) (he : P.underlying e = some (.int .u8)) (hd : P.underlying dst = some .string)
 {B : Nat} {A : Option Addr} {bs : List UInt8} (c : Nat) (h : Rd w B A (bs.map bv)) {n : Nat} (hn : n = bs.length) : (convert src dst (.slice A n c)).run P w = .ok (.string (str bs)) w := by
 subst hn
 by_cases hne : bs = []
 ·subst hne
  rcases A with _ | a
  ·exact run_convert_bytes_nil w src e hs he _ _ dst hd
  ·show (convert src dst (.slice (some a) 0 c)).run P w = _
   rw [run_convert_bytes_string w src dst e _ _ c hs he hd, run_bytesToString w a 0 c [] (by have := run_loadCells_list (P := P) w a [] (fun j v hj => by simp at hj); simpa using this)]
   rfl
 ·obtain ⟨b, o, rfl, hb, hc⟩ := h (by simpa using hne)
  have := run_convert_bytes_arg w src e hs he b o bs.length c (bs.map fun b => (b.toNat : Int)) (by simp) (fun i hi => by
   have e : (bs.map bv)[i]? = some (bv bs[i]) := by simp [hi]
   rw [hc i _ e]
   simp [bv, List.getD, hi]) dst hd
  rw [this, strOfNums_bytes]
theorem on_info_u8 : (Tryz.prog.info? 5).map (fun i => (i.zero, i.size, i.bytes)) = some (some (.int .u8 0), 1, 1) := by kernel_rfl
def letter (k : Nat) : UInt8 := [65, 66, 67, 68, 69, 70, 71, 72, 74, 75].getD k 0
def nameOf (a n : Nat) : List UInt8 := (if 10 ≤ n / a + 1 then [UInt8.ofNat (48 + (n / a + 1) / 10)] else []) ++ [UInt8.ofNat (48 + (n / a + 1) % 10), letter (n % a)]
theorem bv_o (n : Nat) (h : n < 256) : bv (UInt8.ofNat n) = .int .u8 (n : Int) := by
 unfold bv
 rw [UInt8.toNat_ofNat', Nat.mod_eq_of_lt h]
theorem index_letter {k : Nat} (h : k < 10) (w : World) : (Instr.index 9 (.string ⟨#[65, 66, 67, 68, 69, 70, 71, 72, 74, 75]⟩) (.int .i64 (k : Int))).run Tryz.prog w = .ok (.int .u8 ((letter k).toNat : Int)) w := by
 have e : k = 0 ∨ k = 1 ∨ k = 2 ∨ k = 3 ∨ k = 4 ∨ k = 5 ∨ k = 6 ∨ k = 7 ∨ k = 8 ∨ k = 9 := by omega
 rcases e with rfl | rfl | rfl | rfl | rfl | rfl | rfl | rfl | rfl | rfl <;> (show _ = _; kernel_rfl)
theorem conv_u {w : World} {B : Nat} {A : Option Addr} {bs : List UInt8} (c : Nat) (h : Rd w B A (bs.map bv)) {n : Nat} (hn : n = bs.length) : (convert 39 9 (.slice A n c)).run Tryz.prog w = .ok (.string (str bs)) w :=
 conv_bytes _ _ _ Tryz.underlying39 Tryz.underlying5 Tryz.underlying9 c h hn
def LabelPost (w : World) (b : List UInt8) (e : Ending) (w' : World) : Prop := e = .returned (.tuple #[.string (str b), .int .i64 0]) ∧ Fresh w w'
theorem label_yes (w : World) (r : Int) (A : Option Addr) (c : Nat) (gs : List Int) (hA : Rd w w.heap.size A (ivs gs)) (hs : small gs) (n a : Nat) (ha : gs.sum = (a : Int)) (hn : (n : Int) < qJ r gs) :
 Calls Tryz.prog 101 #[.agg #[.int .i64 r, .slice A gs.length c], .int .i64 (n : Int)] w fun e w' => LabelPost w (nameOf a n) e w' := by
 have hri : jU r gs = true := by
  unfold qJ at hn
  by_cases h : jU r gs = true
  ·exact h
  ·rw [zk h] at hn; omega
 obtain ⟨⟨q1, q2⟩, _, _, q3⟩ := rightL_of hri
 have hct : qJ r gs = r * gs.sum := by unfold qJ; rw [zl hri]
 have ha10 : a ≤ 10 := by omega
 have hra : r * (a : Int) ≤ 600 := by
  have := Int.mul_le_mul q2 (show (a : Int) ≤ 10 by omega) (by omega) (by omega)
  omega
 have hnra : (n : Int) < r * (a : Int) := by rw [hct, ha] at hn; exact hn
 have ha0 : 0 < a := by
  rcases Nat.eq_zero_or_pos a with h | h
  ·rw [h] at hnra; simp at hnra; omega
  ·exact h
 have hqr : n / a < 60 := by
  have h0 : r * (a : Int) ≤ 60 * (a : Int) := Int.mul_le_mul_of_nonneg_right q2 (by omega)
  have h2 : (n : Int) < 60 * (a : Int) := Int.lt_of_lt_of_le hnra h0
  have h1 : n < 60 * a := by omega
  exact (Nat.div_lt_iff_lt_mul ha0).2 h1
 have hmod : n % a < 10 := by have := Nat.mod_lt n ha0; omega
 obtain ⟨q, hq⟩ : ∃ x, x = n / a := ⟨_, rfl⟩
 obtain ⟨row, hrow⟩ : ∃ x, x = q + 1 := ⟨_, rfl⟩
 obtain ⟨col, hcol⟩ : ∃ x, x = n % a := ⟨_, rfl⟩
 obtain ⟨d, hd⟩ : ∃ x, x = row / 10 := ⟨_, rfl⟩
 obtain ⟨u, hu⟩ : ∃ x, x = row % 10 := ⟨_, rfl⟩
 obtain ⟨D, hD⟩ : ∃ x, x = 48 + d := ⟨_, rfl⟩
 obtain ⟨U, hU⟩ : ∃ x, x = 48 + u := ⟨_, rfl⟩
 rw [← hq] at hqr
 rw [← hcol] at hmod
 have hr60 : row ≤ 60 := by omega
 have hr1 : 1 ≤ row := by omega
 have HNM : Hid (nameOf a n = (if 10 ≤ row then [UInt8.ofNat D] else []) ++ [UInt8.ofNat U, letter col]) := zh (by unfold nameOf; rw [← hq, ← hcol, ← hrow, ← hd, ← hu, ← hD, ← hU])
 have s1 : (n : Int).tdiv (a : Int) = (q : Int) := by rw [Int.tdiv_eq_ediv_of_nonneg (by omega), hq]; rfl
 have s2 : (n : Int).tmod (a : Int) = (col : Int) := by rw [jB (by omega), hcol]; rfl
 have w1 : IntKind.i64.wrap (q : Int) = (q : Int) := zm _ (by omega)
 have w2 : IntKind.i64.wrap ((q : Int) + 1) = (row : Int) := by rw [hrow, zm _ (by omega)]; omega
 have s3 : (row : Int).tdiv 10 = (d : Int) := by rw [Int.tdiv_eq_ediv_of_nonneg (by omega), hd]; rfl
 have s4 : (row : Int).tmod 10 = (u : Int) := by rw [jB (by omega), hu]; rfl
 have w3 : IntKind.i64.wrap (d : Int) = (d : Int) := zm _ (by omega)
 have w4 : IntKind.i64.wrap (48 + (d : Int)) = (D : Int) := by rw [hD, zm _ (by omega)]; omega
 have w5 : IntKind.i64.wrap (48 + (u : Int)) = (U : Int) := by rw [hU, zm _ (by omega)]; omega
 have w6 : IntKind.u8.wrap (D : Int) = (D : Int) := by rw [IntKind.wrap_u8]; omega
 have w7 : IntKind.u8.wrap (U : Int) = (U : Int) := by rw [IntKind.wrap_u8]; omega
 have hD8 : D < 256 := by omega
 have hU8 : U < 256 := by omega
 have z1 : ((a : Int) == 0) = false := by rw [zC]; omega
 have z2 : ¬ ((a : Int) = 0) := by omega
 have d0 : decide ((n : Int) < 0) = false := zb (by omega)
 obtain ⟨ct, hctv⟩ : ∃ x, x = qJ r gs := ⟨_, rfl⟩
 have d1 : decide (ct ≤ (n : Int)) = false := by rw [hctv]; exact zb (by omega)
 obtain ⟨W, hW⟩ : ∃ W, w.alloc (.cells #[.int .i64 r, .slice A gs.length c] 92) = W := ⟨_, rfl⟩
 have hFW : Fresh w W := by rw [← hW]; exact (za _ w).alloc _
 have hBX : Blk W w.heap.size 92 #[.int .i64 r, .slice A gs.length c] := by rw [← hW]; exact Blk.new w _ _
 have HF := zh hFW
 have BX := zh hBX
 have y0 : W.cell? ⟨w.heap.size, 0, none⟩ = some (.int .i64 r) := hBX.cell 0
 have y1 : W.cell? ⟨w.heap.size, 1, none⟩ = some (.slice A gs.length c) := hBX.cell 1
 have hA2 := (hA.fresh (zf _) hFW).more hFW.size
 have HA := zh hA2
 have HS := zh hs
 have HCT := zh (countL_any W r A c gs hA2 hs)
 have HAC : Hid (∀ w', Fresh W w' → Calls Tryz.prog 116 #[.agg #[.int .i64 r, .slice A gs.length c]] w' fun e w'' => e = .returned (.int .i64 (a : Int)) ∧ Fresh w' w'') := zh fun w' F => by rw [← ha]; exact across_any w' r A c gs ((hA2.fresh (zf _) F).more F.size) hs
 rw [← hctv] at HCT
 obtain ⟨gn, hgn⟩ : ∃ x, x = gs.length := ⟨_, rfl⟩
 rw [← hgn] at y1 HCT HAC hW BX ⊢
 obtain ⟨lc, hlc⟩ : ∃ x, x = letter col := ⟨_, rfl⟩
 have hix : ∀ w, (Instr.index 9 (.string ⟨#[65, 66, 67, 68, 69, 70, 71, 72, 74, 75]⟩) (.int .i64 (col : Int))).run Tryz.prog w = .ok (.int .u8 (lc.toNat : Int)) w := fun w => by rw [hlc]; exact index_letter hmod w
 have HLC := zh hlc
 clear hlc
 obtain ⟨i0, hi, hz0, hz1, hz2⟩ := info_parts on_info_u8
 clear hFW hBX hA hA2 hs hctv hct hnra hra hrow hcol hri ha q3 hgn hn hq hd hu hD hU
 go_in
 go_wp2_with fail
 try rw [hW]
 clear hW
 refine HCT.out.mono ?_
 rintro e x1 ⟨rfl, f1⟩
 have HF1 := zh f1
 have k0 : x1.cell? ⟨w.heap.size, 0, none⟩ = some (.int .i64 r) := (BX.out.frm f1 (fun f => f)).cell 0
 have k1 : x1.cell? ⟨w.heap.size, 1, none⟩ = some (.slice A gn c) := (BX.out.frm f1 (fun f => f)).cell 1
 have HA1 := zh (HAC.out x1 f1)
 clear f1 y0 y1
 go_wp2_with fail
 refine HA1.out.mono ?_
 rintro e x2 ⟨rfl, f2⟩
 have HF2 := zh (HF1.out.trans f2)
 have k0 : x2.cell? ⟨w.heap.size, 0, none⟩ = some (.int .i64 r) := (BX.out.frm HF2.out (fun f => f)).cell 0
 have k1 : x2.cell? ⟨w.heap.size, 1, none⟩ = some (.slice A gn c) := (BX.out.frm HF2.out (fun f => f)).cell 1
 clear f2 HA1
 by_cases hten : 10 ≤ row
 ·have t0 : decide ((10 : Int) ≤ (row : Int)) = true := zc (by omega)
  have HZ2 : Hid (W.heap.size ≤ x2.heap.size) := zh HF2.out.size
  have S0 := zh (Sl.nil (x2.alloc (.cells #[.int .u8 (D : Int)] 5)) x2.heap.size 5 1)
  have R0 := zh (qE x2 (.int .u8 (D : Int)) 5)
  have hb0 := zh (bv_o D hD8)
  go_wp2_with (at_builtin; refine jD _ rfl (.tmp 23) (.tmp 28) _ rfl x2.heap.size 5 i0 _ 1 1 Tryz.underlying39 hi hz0 hz1 hz2 rfl (by omega) _ 0 _ rfl S0.out _ _ 1 _ _ rfl (by rfl) R0.out (fun u hu => by simp at hu; subst hu; rfl) (by unfold maxLen; omega) (by omega) (by simp) ?_; intro v3 x3 hs3 hf3 ha3; have HF3 : Hid (Fresh W x3) := zh ((HF2.out.alloc _).trans' hf3 (fun k hk e => by cases e)); have k0 : x3.cell? ⟨w.heap.size, 0, none⟩ = some (.int .i64 r) := (BX.out.frm HF3.out (fun f => f)).cell 0; have k1 : x3.cell? ⟨w.heap.size, 1, none⟩ = some (.slice A gn c) := (BX.out.frm HF3.out (fun f => f)).cell 1; obtain ⟨A3, c3, rfl, hle3, hm3, _⟩ := hs3.shape; have HS3 := zh hs3; have hsz3 : x2.heap.size ≤ x3.heap.size := (by have := hf3.size; rw [zJ] at this; omega); have HA3 := zh (HAC.out x3 HF3.out); clear hs3 hf3 ha3)
  refine HA3.out.mono ?_
  rintro e x4 ⟨rfl, f4⟩
  have HF4 := zh (HF3.out.trans f4)
  have HS4 := zh (HS3.out.fresh f4)
  have HL : Hid (Sl (x4.alloc (.cells #[.int .u8 (U : Int), .int .u8 (lc.toNat : Int)] 5)) x2.heap.size 5 1 (.slice A3 1 c3) 1 [.int .u8 (D : Int)]) := zh (by have h := HS4.out.alloc (.cells #[.int .u8 (U : Int), .int .u8 (lc.toNat : Int)] 5); exact h)
  have HSZ : Hid (x2.heap.size ≤ x4.heap.size) := zh (by have := (HS3.out.lt); have h4 := f4.size; have := hsz3; omega)
  clear f4 HA3 k0 k1
  have R4 := zh (jL x4 [.int .u8 (U : Int), .int .u8 (lc.toNat : Int)] 5)
  have hz4 := HF3.out.size
  go_wp2_with (at_builtin; refine jD _ rfl (.tmp 30) (.tmp 40) _ rfl x2.heap.size 5 i0 _ 1 1 Tryz.underlying39 hi hz0 hz1 hz2 rfl (by omega) _ 1 _ rfl HL.out _ _ 2 _ [.int .u8 (U : Int), .int .u8 (lc.toNat : Int)] rfl (by rfl) R4.out (fun u hu => by simp at hu; rcases hu with rfl | rfl <;> rfl) (by unfold maxLen; omega) (by omega) (by have := HSZ.out; simp; omega) ?_; intro v5 x5 hs5 hf5 ha5; have HF5 : Hid (Fresh W x5) := zh ((HF4.out.alloc _).trans' hf5 (fun k hk e => by have := (HL.out.lt k e).1; have := HZ2.out; omega)); obtain ⟨A5, c5, rfl, _⟩ := hs5.shape; have HS5 : Hid (Sl x5 x2.heap.size 5 1 (.slice A5 3 c5) 3 ((nameOf a n).map bv)) := zh (by rw [HNM.out, zl hten, HLC.out.symm]; simp only [List.cons_append, List.nil_append, zW, List.map_nil, bv_o D hD8, bv_o U hU8]; exact hs5); have hcv : (convert 39 9 (.slice A5 3 c5)).run Tryz.prog x5 = .ok (.string (str (nameOf a n))) x5 := conv_u c5 HS5.out.rd (by rw [HNM.out, zl hten]; rfl); clear hs5 hf5 ha5)
  exact zi (v := .tuple #[.string (str (nameOf a n)), .int .i64 0]) (by simp [results, Tryz.results101, go_sem]) rfl ⟨rfl, HF.out.trans HF5.out⟩
 ·have t0 : decide ((10 : Int) ≤ (row : Int)) = false := zb (by omega)
  have HA3 := zh (HAC.out x2 HF2.out)
  go_wp2_with fail
  refine HA3.out.mono ?_
  rintro e x4 ⟨rfl, f4⟩
  have HF4 := zh (HF2.out.trans f4)
  have HL : Hid (Sl (x4.alloc (.cells #[.int .u8 (U : Int), .int .u8 (lc.toNat : Int)] 5)) x4.heap.size 5 1 (.slice none 0 0) 0 []) := zh (Sl.nil _ _ _ _)
  have HSZ : Hid (W.heap.size ≤ x4.heap.size) := zh HF4.out.size
  clear f4 HA3 k0 k1
  have R4 := zh (jL x4 [.int .u8 (U : Int), .int .u8 (lc.toNat : Int)] 5)
  go_wp2_with (at_builtin; refine jD _ rfl (.tmp 30) (.tmp 40) _ rfl x4.heap.size 5 i0 _ 1 1 Tryz.underlying39 hi hz0 hz1 hz2 rfl (by omega) _ 0 _ rfl HL.out _ _ 2 _ [.int .u8 (U : Int), .int .u8 (lc.toNat : Int)] rfl (by rfl) R4.out (fun u hu => by simp at hu; rcases hu with rfl | rfl <;> rfl) (by unfold maxLen; omega) (by omega) (by simp) ?_; intro v5 x5 hs5 hf5 ha5; have HF5 : Hid (Fresh W x5) := zh ((HF4.out.alloc _).trans' hf5 (fun k hk e => by have := (HL.out.lt k e).1; have := HSZ.out; omega)); obtain ⟨A5, c5, rfl, _⟩ := hs5.shape; have HS5 : Hid (Sl x5 x4.heap.size 5 1 (.slice A5 2 c5) 2 ((nameOf a n).map bv)) := zh (by rw [HNM.out, zk hten, HLC.out.symm]; simp only [List.nil_append, zW, List.map_nil, bv_o U hU8]; exact hs5); have hcv : (convert 39 9 (.slice A5 2 c5)).run Tryz.prog x5 = .ok (.string (str (nameOf a n))) x5 := conv_u c5 HS5.out.rd (by rw [HNM.out, zk hten]; rfl); clear hs5 hf5 ha5)
  exact zi (v := .tuple #[.string (str (nameOf a n)), .int .i64 0]) (by simp [results, Tryz.results101, go_sem]) rfl ⟨rfl, HF.out.trans HF5.out⟩
theorem name_len (a n : Nat) : (nameOf a n).length ≤ 3 := by
 unfold nameOf
 split <;> simp
def signs : List UInt8 := [65, 66, 67, 68, 69, 70, 71, 72, 74, 75, 76, 77, 78, 80, 81, 82, 84, 85, 86, 87, 88, 89, 90, 50, 51, 52, 53, 54, 55, 56, 57]
def sign (k : Nat) : UInt8 := signs.getD k 0
theorem index_sign {k : Nat} (h : k < 31) (w : World) : (Instr.index 9 (.string ⟨#[65, 66, 67, 68, 69, 70, 71, 72, 74, 75, 76, 77, 78, 80, 81, 82, 84, 85, 86, 87, 88, 89, 90, 50, 51, 52, 53, 54, 55, 56, 57]⟩) (.int .i64 (k : Int))).run Tryz.prog w = .ok (.int .u8 ((sign k).toNat : Int)) w := by
 have e : k = 0 ∨ k = 1 ∨ k = 2 ∨ k = 3 ∨ k = 4 ∨ k = 5 ∨ k = 6 ∨ k = 7 ∨ k = 8 ∨ k = 9 ∨ k = 10 ∨ k = 11 ∨ k = 12 ∨ k = 13 ∨ k = 14 ∨ k = 15 ∨ k = 16 ∨ k = 17 ∨ k = 18 ∨ k = 19 ∨ k = 20 ∨ k = 21 ∨ k = 22 ∨ k = 23 ∨ k = 24 ∨ k = 25 ∨ k = 26 ∨ k = 27 ∨ k = 28 ∨ k = 29 ∨ k = 30 := by omega
 rcases e with rfl | rfl | rfl | rfl | rfl | rfl | rfl | rfl | rfl | rfl | rfl | rfl | rfl | rfl | rfl | rfl | rfl | rfl | rfl | rfl | rfl | rfl | rfl | rfl | rfl | rfl | rfl | rfl | rfl | rfl | rfl <;> (show _ = _; kernel_rfl)
def worthF (c : UInt8) : Nat → Nat → Int
 | 0, _ => -1
 | k + 1, i => if sign i = c then (i : Int) else worthF c k (i + 1)
def jV (c : UInt8) : Int := worthF c 31 0
theorem worthF_le (c : UInt8) : ∀ k i, -1 ≤ worthF c k i ∧ worthF c k i < (i : Int) + (k : Int) ∨ worthF c k i = -1
 | 0, i => .inr rfl
 | k + 1, i => by
  unfold worthF
  split
  ·left; omega
  ·rcases worthF_le c k (i + 1) with h | h
   ·left; omega
   ·exact .inr h
theorem worthV_le (c : UInt8) : -1 ≤ jV c ∧ jV c ≤ 30 := by
 rcases worthF_le c 31 0 with h | h
 ·unfold jV; omega
 ·unfold jV; omega
theorem worth_any (c : UInt8) (w : World) : Calls Tryz.prog 98 #[.int .u8 (c.toNat : Int)] w fun e w' => e = .returned (.int .i64 (jV c)) ∧ w' = w := by
 have HIX : Hid (∀ k : Nat, k < 31 → ∀ w, (Instr.index 9 (.string ⟨#[65, 66, 67, 68, 69, 70, 71, 72, 74, 75, 76, 77, 78, 80, 81, 82, 84, 85, 86, 87, 88, 89, 90, 50, 51, 52, 53, 54, 55, 56, 57]⟩) (.int .i64 (k : Int))).run Tryz.prog w = .ok (.int .u8 ((sign k).toNat : Int)) w) := zh fun k h w => index_sign h w
 go_in
 go_wp2_with fail
 go_loopw [3] (fun v3 wr => ∃ i : Nat, i ≤ 31 ∧ v3 = .int .i64 (i : Int) ∧ jV c = worthF c (31 - i) i ∧ wr = w) (fun v3 _ => 31 - (intOf v3).toNat)
 case atStart => exact ⟨0, by omega, rfl, rfl, rfl⟩
 case round =>
  obtain ⟨i, hi, rfl, hw, rfl⟩ := hrel
  have hi0 : (0 : Int) ≤ (i : Int) := by omega
  have HW := zh hw
  clear hw
  by_cases hlt : i < 31
  ·have hlti : (i : Int) < 31 := by omega
   have d0 : decide ((i : Int) < 31) = true := zc hlti
   have hx := HIX.out i hlt
   have HST : Hid (jV c = if sign i = c then (i : Int) else worthF c (31 - (i + 1)) (i + 1)) := zh (by rw [HW.out, show 31 - i = (31 - (i + 1)) + 1 by omega, worthF])
   generalize sign i = s at hx HST
   by_cases hs : s = c
   ·have d1 : ((s.toNat : Int) == (c.toNat : Int)) = true := by rw [hs]; simp
    have HV : Hid (jV c = (i : Int)) := zh (by rw [HST.out, zl hs])
    clear hs
    go_wp2_with fail
    go_ret
    exact ⟨ret_z HV.out.symm, rfl⟩
   ·have d1 : ((s.toNat : Int) == (c.toNat : Int)) = false := by
     rw [zC]
     intro e
     exact hs (UInt8.toNat_inj.1 (by omega))
    have HV : Hid (jV c = worthF c (31 - (i + 1)) (i + 1)) := zh (by rw [HST.out, zk hs])
    clear hs
    go_wp2_with fail
    go_roundw
    case rel => exact ⟨i + 1, by omega, by go_num, HV.out, by first | rfl | trivial⟩
    case measure => simp [intOf]; omega
  ·have hlti : ¬ (i : Int) < 31 := by omega
   have d0 : decide ((i : Int) < 31) = false := zb hlti
   have HV : Hid (jV c = -1) := zh (by rw [HW.out, show 31 - i = 0 by omega]; rfl)
   go_wp2_with fail
   go_ret
   exact ⟨ret_z HV.out.symm, rfl⟩
def sumV (d0 d1 d2 d3 d4 d5 : Nat) : Nat := 2 * d0 + 3 * d1 + 4 * d2 + 5 * d3 + 6 * d4 + d5
theorem sum_any (w : World) (d0 d1 d2 d3 d4 d5 : Nat) (h0 : d0 ≤ 100) (h1 : d1 ≤ 100) (h2 : d2 ≤ 100) (h3 : d3 ≤ 100) (h4 : d4 ≤ 100) (h5 : d5 ≤ 100) :
 Calls Tryz.prog 99 #[.agg #[.int .i64 (d0 : Int), .int .i64 (d1 : Int), .int .i64 (d2 : Int), .int .i64 (d3 : Int), .int .i64 (d4 : Int), .int .i64 (d5 : Int)]] w fun e w' => e = .returned (.int .i64 (sumV d0 d1 d2 d3 d4 d5 : Int)) ∧ Fresh w w' := by
 have HF := zh ((za (fun _ => False) w).alloc (.cells #[.int .i64 (d0 : Int), .int .i64 (d1 : Int), .int .i64 (d2 : Int), .int .i64 (d3 : Int), .int .i64 (d4 : Int), .int .i64 (d5 : Int)] 163))
 have HV : Hid ((sumV d0 d1 d2 d3 d4 d5 : Int) = 2 * (d0 : Int) + 3 * (d1 : Int) + 4 * (d2 : Int) + 5 * (d3 : Int) + 6 * (d4 : Int) + (d5 : Int)) := zh (by unfold sumV; omega)
 go_in
 go_wp2_with fail
 go_ret
 exact ⟨ret_z (by rw [HV.out]), HF.out⟩
end
end Go.Proofs.YtnmokpbomeamfaaGreat

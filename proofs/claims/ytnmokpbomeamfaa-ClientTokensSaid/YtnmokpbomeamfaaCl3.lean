/- What session.Encode makes of a request to begin; the client's New. -/
import Derived.Test.YtnmokpbomeamfaaCl2
import Derived.Test.YtnmokpbomeamfaaMaps
import Derived.Deep.RegionLaw
namespace Go.Proofs.Ytnmokpbomeamfaa
open Go.RowKit
attribute [local go_sem ↓] Go.wp_at_zero Go.wp_at_succ

theorem step_append_sl {P : Program} {w : World} {ops : Array Oper} {o : Oper} {a : Act} {K : Act → World → Prop} {Q : Exit → Act → World → Prop} {E : Prop} (hgd : o.guard = none) (s x : Operand) (t : TypeId)
    (ho : o.op = .call { callee := .builtin .append, args := #[s, x], argTypes := #[t, t] })
    (B : Nat) (e : TypeId) (i : TypeInfo) (z : Value) (size bytes : Nat) (ht : P.underlying t = some (.slice e)) (hi : P.info? e = some i) (hz : i.zero = some z)
    (hsize : i.size = size) (hby : i.bytes = bytes) (hzs : z.cells.size = size) (hsz : 0 < size)
    (v : Value) (n : Nat) (xs : List Value) (hs : a.eval s = v) (hown : Sl w B e size v n xs)
    (B' : Nat) (A : Option Addr) (m c : Nat) (news : List Value) (hx : a.eval x = .slice A m c) (hl : news.length = m * size) (hr : Rd w B' A news) (h1 : ∀ u ∈ news, u.oneCell' = true)
    (h63 : n + m ≤ maxLen) (hbytes : (n + m) * bytes ≤ 140737488355328) (hB : B ≤ w.heap.size)
    (h : ∀ v' w', Sl w' B e size v' (n + m) (xs ++ news) → Frm (fun k => v.ownBlock = some k) w w' → (v'.ownBlock = v.ownBlock ∨ v'.ownBlock = some w.heap.size) → K (a.put o.dst v') w') :
    if Region.wanted o (yielded ops a.tmps) = true then Oper.wp P o a w K Q else E := by
  have hw : Region.wanted o (yielded ops a.tmps) = true := by simp [Region.wanted, hgd]
  rw [if_pos hw]
  obtain ⟨v', w', hrun, h2, h3, h4⟩ := run_append_sl (P := P) w B t o.type e i z size bytes ht hi hz hsize hby hzs hsz v n xs hown B' A m c news hl hr h1 h63 hbytes hB
  unfold Oper.wp execOp
  simp only [ho, resolve, invoke, builtin, Sem.run_bind, Sem.run_pure, Result.andThen_ok, List.map_toArray, List.map_cons, List.map_nil, hs, hx, hrun]
  exact h v' w' h2 h3 h4
def BeginPost (w : World) (id : Nat) (e : Ending) (w' : World) : Prop := ∃ v bs, e = .returned (.tuple #[v, .int .i64 0]) ∧ bs = codes [1, 0, 0, id] ++ FieldM.text [] ∧ Sl w' w.heap.size 5 1 v bs.length (bs.map bv) ∧ Fresh w w'
set_option maxHeartbeats 2000000 in
theorem encode_begin (w : World) (id : Nat) (hid : id ≤ 1000) :
    Calls Try.prog 16 #[.agg #[.int .i64 1, .int .i64 0, .int .i64 0, .int .i64 (id : Int), .slice none 0 0]] w fun e w' => BeginPost w id e w' := by
  obtain ⟨i0, hi, hz0, hz1, hz2⟩ := info_parts info_u8
  go_enter Try.func16, Try.ntmps16
  go_wp2_with fail
  obtain ⟨w0, hw0⟩ : ∃ w0, w.alloc (.cells #[.int .i64 1, .int .i64 0, .int .i64 0, .int .i64 (id : Int), .slice none 0 0] 50) = w0 := ⟨_, rfl⟩
  rw [hw0]
  have HF0 : Hid (Fresh w w0) := Lib.hid (by rw [← hw0]; exact (Frm.refl _ _).alloc _)
  have BX : Hid (Blk w0 w.heap.size 50 #[.int .i64 1, .int .i64 0, .int .i64 0, .int .i64 (id : Int), .slice none 0 0]) := Lib.hid (by rw [← hw0]; exact Blk.new w _ _)
  clear hw0
  refine (right_begin w0 id hid).mono ?_
  rintro e w1 ⟨rfl, f1⟩
  have HF1 := Lib.hid (HF0.out.trans f1)
  have CELL : Hid (∀ w', Fresh w1 w' → w'.cell? ⟨w.heap.size, 0, none⟩ = some (.int .i64 1) ∧ w'.cell? ⟨w.heap.size, 1, none⟩ = some (.int .i64 0) ∧ w'.cell? ⟨w.heap.size, 2, none⟩ = some (.int .i64 0) ∧ w'.cell? ⟨w.heap.size, 3, none⟩ = some (.int .i64 (id : Int)) ∧ w'.cell? ⟨w.heap.size, 4, none⟩ = some (.slice none 0 0)) := Lib.hid fun w' F => by
    have k := BX.out.frm (f1.trans F) (fun f => f)
    exact ⟨k.cell 0, k.cell 1, k.cell 2, k.cell 3, k.cell 4⟩
  obtain ⟨W, hW⟩ : ∃ W, W = (w1.alloc (.cells #[.int .i64 1, .int .i64 0, .int .i64 0, .int .i64 (id : Int)] 3)).drew := ⟨_, rfl⟩
  have HW : Hid (Fresh w1 W) := Lib.hid (by rw [hW]; exact ((Frm.refl _ w1).alloc _).drew)
  have R : Rd W W.heap.size (some ⟨w1.heap.size, 0, none⟩) ([1, 0, 0, id].map nv) := by
    rw [hW]
    exact ((rd_new w1 ([1, 0, 0, id].map nv) 3).drew).more (by simp)
  have HN := Lib.hid (numbers_any W (some ⟨w1.heap.size, 0, none⟩) 4 [1, 0, 0, id] R (by simp) (by
    intro n hn
    simp at hn
    omega))
  have HCL := codes_len [1, 0, 0, id] (by
    intro n hn
    simp at hn
    omega)
  have HTL : (FieldM.text []).length ≤ 100 := by decide
  simp only [List.length_cons, List.length_nil] at HCL
  have hsz1 := HF1.out.size
  have HT : Hid (∀ w, Calls Try.prog 23 #[.slice none 0 0] w fun e w' => ∃ v, e = .returned v ∧ Sl w' w.heap.size 5 1 v (FieldM.text []).length ((FieldM.text []).map bv) ∧ Fresh w w') := Lib.hid fun w => text_any none 0 [] w (Rd.nil _ _ _) (by simp)
  generalize hcs : codes [1, 0, 0, id] = cs at HN HCL
  generalize hts : FieldM.text [] = ts at HT HTL
  have HCS := Lib.hid hcs
  have HTS := Lib.hid hts
  clear hcs hts R f1
  go_wp2_with fail
  go_region_held3 (fun w' => w'.cell? ⟨w.heap.size, 0, none⟩ = some (.int .i64 1) ∧ w'.cell? ⟨w.heap.size, 1, none⟩ = some (.int .i64 0) ∧ w'.cell? ⟨w.heap.size, 2, none⟩ = some (.int .i64 0) ∧ w'.cell? ⟨w.heap.size, 3, none⟩ = some (.int .i64 (id : Int)) ∧ w'.cell? ⟨w.heap.size, 4, none⟩ = some (.slice none 0 0))
    (first | exact CELL.out _ (Frm.refl _ _) | exact CELL.out _ ((Frm.refl _ _).drew) | exact CELL.out _ HW.out | exact CELL.out _ (((Frm.refl _ w1).alloc _).drew) | exact CELL.out _ (HW.out.trans HF3.out) | exact CELL.out _ ((HW.out.trans HF3.out).trans HF4.out) | exact CELL.out _ HF5.out)
    (first
      | (go_at_call 22; rw [← hW]; show Calls _ _ #[Value.slice (some ⟨w1.heap.size, 0, none⟩) 4 4] W _; refine HN.out.mono ?_; rintro e w3 ⟨v3, rfl, hs3, f3⟩; have HS3 := Lib.hid hs3; have HF3 := Lib.hid f3; clear hs3 f3)
      | (go_at_call 23; show Calls _ _ #[Value.slice none 0 0] w3 _; refine (HT.out w3).mono ?_; rintro e w4 ⟨v4, rfl, hs4, f4⟩; have HS4 := Lib.hid hs4; have HF4 := Lib.hid f4; obtain ⟨A4, c4, rfl, _⟩ := hs4.shape; clear hs4 f4; have HSA := Lib.hid (HS3.out.fresh HF4.out))
      | (refine step_append_sl (by rfl) (.tmp 16) (.tmp 19) 29 (by rfl) W.heap.size 5 i0 _ 1 1 Try.underlying29 hi hz0 hz1 hz2 rfl (by omega) v3 cs.length (cs.map bv) (by rfl) HSA.out _ A4 ts.length c4 (ts.map bv) (by rfl) (by rw [List.length_map, Nat.mul_one]) HS4.out.rd (bv_one _) (by unfold maxLen; omega) (by omega) (HF3.out.trans HF4.out).size ?_; intro v5 w5 hs5 hf5 ha5; have HF5 : Hid (Fresh w1 w5) := Lib.hid (((HW.out.trans HF3.out).trans HF4.out).trans' hf5 (fun i hi hk => by have := (HSA.out.lt _ hk).1; have := HW.out.size; omega)); have HS5 := Lib.hid hs5; clear hs5 hf5 ha5))
  go_wp2_with fail
  go_ret2
  exact ⟨_, _, rfl, rfl, by rw [HCS.out, HTS.out, List.length_append, List.map_append]; exact HS5.out.less (by have := HW.out.size; omega), HF1.out.trans HF5.out⟩
end Go.Proofs.Ytnmokpbomeamfaa

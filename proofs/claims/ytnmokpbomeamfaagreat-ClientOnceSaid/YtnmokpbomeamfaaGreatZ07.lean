/- Proved here, for the statement ClientOnceSaid: laws that its walk leans on. It holds with no condition. (Put together and shortened by a program out of many texts: Keys, Queue11, QueueMath2, Queue12, Queue16, Queue17, Queue18, Queue19, Queue20.) -/
import Derived.Test.YtnmokpbomeamfaaGreatZ06
set_option linter.unusedVariables false
set_option maxRecDepth 100000
set_option maxHeartbeats 64000000
namespace Go.Proofs.YtnmokpbomeamfaaGreat
section
open Go.RowKit
theorem and_top (u : Nat) (hu : u < 18446744073709551616) : bits .and .u64 (u : Int) 9223372036854775808 = if u < 9223372036854775808 then 0 else 9223372036854775808 := by
 have h := u64_and_nat u 9223372036854775808 hu (by omega)
 have e : u &&& 9223372036854775808 = if u < 9223372036854775808 then 0 else 9223372036854775808 := by
  have := nat_bit 63 u
  rw [show (2 : Nat) ^ 63 = 9223372036854775808 by decide] at this
  rw [this]
  split <;> omega
 rw [e] at h
 rw [show ((9223372036854775808 : Nat) : Int) = 9223372036854775808 by rfl] at h
 rw [h]
 split <;> rfl
theorem nat_not64 (u : Nat) (hu : u < 18446744073709551616) : 18446744073709551615 ^^^ u = 18446744073709551615 - u := by
 have h := congrArg BitVec.toNat (BitVec.allOnes_xor (x := BitVec.ofNat 64 u))
 rw [BitVec.toNat_xor, BitVec.toNat_not, BitVec.toNat_allOnes, BitVec.toNat_ofNat, Nat.mod_eq_of_lt (by simpa using hu)] at h
 simpa using h
theorem xor_max (u : Nat) (hu : u < 18446744073709551616) : bits .xor .u64 IntKind.u64.max (u : Int) = ((18446744073709551615 - u : Nat) : Int) := by
 have h := u64_xor_nat 18446744073709551615 u (by omega) hu
 rw [nat_not64 u hu] at h
 exact h
theorem andNot_top (u : Nat) (h0 : 9223372036854775808 ≤ u) (hu : u < 18446744073709551616) : bits .andNot .u64 (u : Int) 9223372036854775808 = ((u - 9223372036854775808 : Nat) : Int) := by
 have h := u64_andNot_nat u 9223372036854775808 hu (by omega)
 have e : u &&& (18446744073709551615 - 9223372036854775808) = u - 9223372036854775808 := by
  have := Nat.and_two_pow_sub_one_eq_mod u 63
  rw [show (2 : Nat) ^ 63 - 1 = 18446744073709551615 - 9223372036854775808 by decide] at this
  rw [this]
  omega
 rw [e] at h
 exact h
theorem of_lo {u : Nat} (hu : u < 18446744073709551616) (h : (bits .and .u64 (u : Int) 9223372036854775808 == 0) = true) : bits .xor .u64 IntKind.u64.max (u : Int) = ((FareM.of u : Nat) : Int) := by
 rw [and_top u hu] at h
 rw [xor_max u hu]
 unfold FareM.of
 split at h
 ·rename_i h2; rw [zl h2]
 ·simp at h
theorem of_hi {u : Nat} (hu : u < 18446744073709551616) (h : (bits .and .u64 (u : Int) 9223372036854775808 == 0) = false) : bits .andNot .u64 (u : Int) 9223372036854775808 = ((FareM.of u : Nat) : Int) := by
 rw [and_top u hu] at h
 unfold FareM.of
 split at h
 ·simp at h
 ·rename_i h2; rw [zk h2, andNot_top u (by omega) hu]
def f64of (n : Int) : Nat := n.toNat
theorem run_f64from_int (w : World) (n : Int) : (callFunc 80 #[.int .u64 n]).run Tryz.prog w = .ok (.value (.float .f64 (f64of n))) w := by kernel_rfl
theorem run_f64from (w : World) (b : Nat) : (callFunc 80 #[.int .u64 (b : Int)]).run Tryz.prog w = .ok (.value (.float .f64 b)) w := by kernel_rfl
theorem ret_f64 {a b : Nat} (h : a = b) : Ending.returned (.float .f64 a) = .returned (.float .f64 b) := by rw [h]
theorem fareOf_any (u : Nat) (hu : u < 18446744073709551616) (w : World) :
 Calls Tryz.prog 78 #[.int .u64 (u : Int)] w fun e w' => e = .returned (.float .f64 (FareM.of u)) ∧ w' = w := by
 have HU := zh hu
 by_cases h : (bits .and .u64 (u : Int) 9223372036854775808 == 0) = true
 ·have e1 := of_lo hu h
  have hb := fun w => run_f64from w (FareM.of u)
  clear hu
  go_in
  go_wp2
  go_ret
  exact ⟨rfl, rfl⟩
 ·have h : (bits .and .u64 (u : Int) 9223372036854775808 == 0) = false := by simpa using h
  have e1 := of_hi hu h
  have hb := fun w => run_f64from w (FareM.of u)
  clear hu
  go_in
  go_wp2
  go_ret
  exact ⟨rfl, rfl⟩
theorem refOf_any (u : Nat) (hu : u < 18446744073709551616) (w : World) :
 Calls Tryz.prog 66 #[.int .u64 (u : Int)] w fun e w' => e = .returned (.float .f64 (FareM.of u)) ∧ w' = w := by
 have hb := fun w n => run_f64from_int w n
 by_cases h : u < 9223372036854775808
 ·have e1 : f64of (IntKind.u64.wrap (18446744073709551615 - (u : Int))) = FareM.of u := by
   unfold FareM.of f64of
   rw [zl h, IntKind.wrap_u64]
   omega
  have h1 : decide ((u : Int) < 9223372036854775808) = true := by simp; omega
  have h2 : decide (9223372036854775808 ≤ (u : Int)) = false := by simp; omega
  have HU := zh hu
  have HE := zh e1
  clear hu h e1
  go_in
  go_wp2
  go_ret
  exact ⟨ret_f64 HE.out, rfl⟩
 ·have e1 : f64of (IntKind.u64.wrap ((u : Int) - 9223372036854775808)) = FareM.of u := by
   unfold FareM.of f64of
   rw [zk h, IntKind.wrap_u64]
   omega
  have h1 : 9223372036854775808 ≤ (u : Int) := by omega
  have HU := zh hu
  have HE := zh e1
  clear hu h e1
  go_in
  go_wp2
  go_ret
  exact ⟨ret_f64 HE.out, rfl⟩
end
section
open Go.RowKit QueueM
attribute [local go_sem] run_store_float
theorem ahead_by (a b : Wt) : QueueM.ahead a b = if FareM.rank a.score b.score ≠ 0 then decide (0 < FareM.rank a.score b.score) else if a.time ≠ b.time then decide (a.time < b.time) else decide (a.id < b.id) := by
 rw [Bool.eq_iff_iff, ahead_iff, rank_eq]
 generalize QueueM.wv a.score = p
 generalize QueueM.wv b.score = q
 unfold FareM.sgnI
 split <;> (repeat' (first | omega | split at *)) <;> simp <;> omega
theorem refAhead_any (a b : Wt) (w : World) :
 Calls Tryz.prog 123 #[wagg a, wagg b] w fun e w' => e = .returned (.bool (QueueM.ahead a b)) ∧ Fresh w w' := by
 have HA := zh (ahead_by a b)
 unfold wagg
 obtain ⟨ai, ac, am, at_, as_⟩ := a
 obtain ⟨bi, bc, bm, bt, bs⟩ := b
 dsimp only at HA ⊢
 have HF : Hid (∀ o o', Fresh w ((w.alloc o).alloc o')) := zh fun o o' => ((za _ w).alloc o).alloc o'
 have HR := zh (fun w => refRank_any as_ bs w)
 generalize FareM.rank as_ bs = r at HA HR
 rcases zI (r != 0) with h1 | h1
 ·have e := HA.out
  rw [zl (by simpa using h1)] at e
  have HE := zh e
  clear e
  go_in
  go_wp2_with fail
  refine (HR.out _).mono ?_
  rintro e w1 ⟨rfl, rfl⟩
  go_wp2_with fail
  go_ret
  exact ⟨ret_bool HE.out.symm, HF.out _ _⟩
 ·have e := HA.out
  rw [zk (by simpa using h1)] at e
  rcases zI (at_ != bt) with h2 | h2
  ·rw [zl (by simpa using h2)] at e
   have HE := zh e
   clear e
   go_in
   go_wp2_with fail
   refine (HR.out _).mono ?_
   rintro e w1 ⟨rfl, rfl⟩
   go_wp2_with fail
   go_ret
   exact ⟨ret_bool HE.out.symm, HF.out _ _⟩
  ·rw [zk (by simpa using h2)] at e
   have HE := zh e
   clear e
   go_in
   go_wp2_with fail
   refine (HR.out _).mono ?_
   rintro e w1 ⟨rfl, rfl⟩
   go_wp2_with fail
   go_ret
   exact ⟨ret_bool HE.out.symm, HF.out _ _⟩
end
namespace QueueM

end QueueM
section
open Go.RowKit QueueM
attribute [local go_sem] run_store_float

def fval (o : Option Wt) : Value := match o with
 | some x => .tuple #[wagg x, .bool true]
 | none => .tuple #[wagg ⟨0, 0, 0, 0, 0⟩, .bool false]
theorem first_at {left : List Int} {l : List Wt} {i : Nat} (h : i < l.length) (no : ∀ j (hj : j < l.length), j < i → room left l[j] = false) (yes : room left l[i] = true) : first left l = some l[i] := by
 unfold first
 rw [List.find?_eq_some_iff_getElem]
 exact ⟨yes, i, h, rfl, fun j hj => by rw [no j (by omega) hj]; rfl⟩
theorem first_none {left : List Int} {l : List Wt} (no : ∀ j (hj : j < l.length), room left l[j] = false) : first left l = none := by
 unfold first
 rw [List.find?_eq_none]
 intro x hx
 obtain ⟨j, hj, rfl⟩ := List.mem_iff_getElem.1 hx
 rw [no j hj]
 simp
theorem left_at {w : World} {B : Nat} {A : Option Addr} {zs : List Int} (h : Rd w B A (zs.map (Value.int .i64))) {k : Nat} (hk : k < zs.length) : ∃ b o, A = some ⟨b, o, none⟩ ∧ w.cell? ⟨b, o + k, none⟩ = some (.int .i64 (zs.getD k 0)) := by
 obtain ⟨b, o, hA, _, hc⟩ := h.at_ (k := k) (by simpa using hk)
 exact ⟨b, o, hA, by rw [hc]; simp [List.getD, hk]⟩
def FirstPost (w : World) (o : Option Wt) (e : Ending) (w' : World) : Prop := e = .returned (fval o) ∧ Fresh w w'
structure IsR (w : World) (B b : Nat) (v : Value) (l : List Wt) : Prop where
 blk : Blk w b 138 #[v]
 ge : B ≤ b
 sl : Sl w B 175 5 v l.length (l.flatMap wcells)
theorem right_no {x : Wt} (h : ¬ (1 ≤ x.id ∧ x.id ≤ 28629151 ∧ 0 ≤ x.cls ∧ x.cls ≤ 7 ∧ 1 ≤ x.many ∧ x.many ≤ 600 ∧ 0 ≤ x.time ∧ x.time ≤ 1099511627776)) : right x = false := by
 rcases zI (right x) with hh | hh
 ·exact absurd ((right_iff x).1 hh) h
 ·exact hh
theorem refRight_any (x : Wt) (w : World) : Calls Tryz.prog 121 #[wagg x] w fun e w' => e = .returned (.bool (right x)) ∧ Fresh w w' := by
 have HF : Hid (∀ o, Fresh w (w.alloc o)) := zh fun o => (za _ w).alloc o
 have HN : Hid (¬ (1 ≤ x.id ∧ x.id ≤ 28629151 ∧ 0 ≤ x.cls ∧ x.cls ≤ 7 ∧ 1 ≤ x.many ∧ x.many ≤ 600 ∧ 0 ≤ x.time ∧ x.time ≤ 1099511627776) → right x = false) := zh right_no
 have HY : Hid ((1 ≤ x.id ∧ x.id ≤ 28629151 ∧ 0 ≤ x.cls ∧ x.cls ≤ 7 ∧ 1 ≤ x.many ∧ x.many ≤ 600 ∧ 0 ≤ x.time ∧ x.time ≤ 1099511627776) → right x = true) := zh (right_iff x).2
 unfold wagg
 generalize hr : right x = r at HN HY ⊢
 clear hr
 obtain ⟨xi, xc, xm, xt, xs⟩ := x
 dsimp only at HN HY ⊢
 by_cases h0 : 1 ≤ xi
 case neg =>
  obtain rfl := HN.out (by omega)
  go_in
  go_wp2_with fail
  go_ret
  exact ⟨ret_bool (by first | rfl | (simp; omega) | simp), HF.out _⟩
 case pos =>
  by_cases h1 : xi ≤ 28629151
  case neg =>
   obtain rfl := HN.out (by omega)
   go_in
   go_wp2_with fail
   go_ret
   exact ⟨ret_bool (by first | rfl | (simp; omega) | simp), HF.out _⟩
  case pos =>
   by_cases h2 : 0 ≤ xc
   case neg =>
    obtain rfl := HN.out (by omega)
    go_in
    go_wp2_with fail
    go_ret
    exact ⟨ret_bool (by first | rfl | (simp; omega) | simp), HF.out _⟩
   case pos =>
    by_cases h3 : xc ≤ 7
    case neg =>
     obtain rfl := HN.out (by omega)
     go_in
     go_wp2_with fail
     go_ret
     exact ⟨ret_bool (by first | rfl | (simp; omega) | simp), HF.out _⟩
    case pos =>
     by_cases h4 : 1 ≤ xm
     case neg =>
      obtain rfl := HN.out (by omega)
      go_in
      go_wp2_with fail
      go_ret
      exact ⟨ret_bool (by first | rfl | (simp; omega) | simp), HF.out _⟩
     case pos =>
      by_cases h5 : xm ≤ 600
      case neg =>
       obtain rfl := HN.out (by omega)
       go_in
       go_wp2_with fail
       go_ret
       exact ⟨ret_bool (by first | rfl | (simp; omega) | simp), HF.out _⟩
      case pos =>
       by_cases h6 : 0 ≤ xt
       case neg =>
        obtain rfl := HN.out (by omega)
        go_in
        go_wp2_with fail
        go_ret
        exact ⟨ret_bool (by first | rfl | (simp; omega) | simp), HF.out _⟩
       case pos =>
        by_cases h7 : xt ≤ 1099511627776
        case neg =>
         obtain rfl := HN.out (by omega)
         go_in
         go_wp2_with fail
         go_ret
         exact ⟨ret_bool (by first | rfl | (simp; omega) | simp), HF.out _⟩
        case pos =>
         obtain rfl := HY.out (by omega)
         go_in
         go_wp2_with fail
         go_ret
         exact ⟨ret_bool (by first | rfl | (simp; omega) | simp), HF.out _⟩
theorem refPlace_any (w : World) (B b : Nat) (v : Value) (l : List Wt) (id : Int) (h : IsR w B b v l) (hl : l.length ≤ 1000) :
 Calls Tryz.prog 122 #[.pointer (some ⟨b, 0, none⟩), .int .i64 id] w fun e w' => e = .returned (.int .i64 (plc id l)) ∧ w' = w := by
 obtain ⟨A, cap, rfl, _, _, _⟩ := h.sl.shape
 have hc : w.cell? ⟨b, 0, none⟩ = some (.slice A l.length cap) := h.blk.cell 0
 have HR := zh h.sl.rd
 clear h
 go_in
 go_wp2_with fail
 go_loop [5] (fun v5 => ∃ i : Nat, i ≤ l.length ∧ v5 = .int .i64 (i : Int) ∧ (∀ j (hj : j < l.length), j < i → l[j].id ≠ id)) (fun v5 => l.length - (intOf v5).toNat)
 case atStart => exact ⟨0, by omega, rfl, fun _ _ h => by omega⟩
 case round =>
  obtain ⟨i, hi, rfl, hno⟩ := hrel
  have HNO := zh hno
  clear hno
  have hi0 : (0 : Int) ≤ (i : Int) := by omega
  by_cases hlt : i < l.length
  ·obtain ⟨b', o, rfl, _, p5⟩ := five_at HR.out hlt
   have c0 := p5.1
   obtain ⟨x, hx⟩ : ∃ x, x = l[i] := ⟨_, rfl⟩
   have HX := zh hx
   rw [← hx] at c0
   clear hx p5
   have hlti : (i : Int) < (l.length : Int) := by omega
   by_cases he : x.id = id
   ·have heb : (x.id == id) = true := by rw [beq_iff_eq]; exact he
    have HE := zh he
    clear he
    go_wp2_with fail
    go_ret
    exact ⟨ret_i64 (plc_at hlt HNO.out (by rw [← HX.out]; exact HE.out)).symm, rfl⟩
   ·have heb : (x.id == id) = false := by rw [zC]; exact he
    have HE := zh he
    clear he
    go_wp2_with fail
    go_round
    case rel =>
     refine ⟨i + 1, by omega, by go_num, fun j hj hji => ?_⟩
     rcases zL j i with h | h
     ·exact HNO.out j hj h
     ·obtain rfl : j = i := by omega
      rw [← HX.out]; exact HE.out
    case measure => simp [intOf]; omega
  ·have hlti : ¬ (i : Int) < (l.length : Int) := by omega
   go_wp2_with fail
   go_ret
   exact ⟨ret_i64 (plc_none (fun j hj => HNO.out j hj (by omega))).symm, rfl⟩
theorem jF {P : Program} {w : World} {ops : Array Oper} {o : Oper} {a : Act} {K : Act → World → Prop} {Q : Exit → Act → World → Prop} {E : Prop} (hgd : o.guard = none) (s x : Operand) (t : TypeId)
 (ho : o.op = .call { callee := .builtin .append, args := #[s, x], argTypes := #[t, t] })
 (B : Nat) (e : TypeId) (i : TypeInfo) (z : Value) (size bytes : Nat) (ht : P.underlying t = some (.slice e)) (hi : P.info? e = some i) (hz : i.zero = some z)
 (hsize : i.size = size) (hby : i.bytes = bytes) (hzs : z.cells.size = size) (hsz : 0 < size)
 (v : Value) (n : Nat) (xs : List Value) (hs : a.eval s = v) (hown : Sl w B e size v n xs)
 (B' : Nat) (A : Option Addr) (m c : Nat) (news : List Value) (hx : a.eval x = .slice A m c) (hl : news.length = m * size) (hr : Rd w B' A news) (h1 : ∀ u ∈ news, u.oneCell' = true)
 (h63 : n + m ≤ maxLen) (hbytes : (n + m) * bytes ≤ 140737488355328) (hB : B ≤ w.heap.size)
 (h : ∀ v' w', Sl w' B e size v' (n + m) (xs ++ news) → Frm (fun k => v.ownBlock = some k) w w' → (v'.ownBlock = v.ownBlock ∨ v'.ownBlock = some w.heap.size) → K (a.put o.dst v') w') :
 if Region.wanted o (yielded ops a.tmps) = true then Oper.wp P o a w K Q else E := by
 have hw : Region.wanted o (yielded ops a.tmps) = true := by simp [Region.wanted, hgd]
 rw [zl hw]
 obtain ⟨v', w', hrun, h2, h3, h4⟩ := run_append_sl (P := P) w B t o.type e i z size bytes ht hi hz hsize hby hzs hsz v n xs hown B' A m c news hl hr h1 h63 hbytes hB
 unfold Oper.wp execOp
 simp only [ho, resolve, invoke, builtin, Sem.run_bind, Sem.run_pure, Result.andThen_ok, List.map_toArray, zW, List.map_nil, hs, hx, hrun]
 exact h v' w' h2 h3 h4
theorem IsR.fresh {w w' : World} {B b : Nat} {v : Value} {l : List Wt} (h : IsR w B b v l) (F : Fresh w w') : IsR w' B b v l := ⟨h.blk.frm F (fun f => f), h.ge, h.sl.fresh F⟩
def StepR (w : World) (B b : Nat) (l : List Wt) (w' : World) : Prop := ∃ v', IsR w' B b v' l ∧ Frm (fun k => k = b) w w'
theorem StepR.still {w w' : World} {B b : Nat} {v : Value} {l : List Wt} (h : IsR w B b v l) (F : Fresh w w') : StepR w B b l w' := ⟨v, h.fresh F, F.frm⟩
theorem putR {w w1 : World} {B b n : Nat} {v v' : Value} {xs : List Value} (hB : B ≤ b) (F : Fresh w w1) (hb : Blk w1 b 138 #[v]) (hs : Sl w1 B 175 5 v' n xs) :
 Blk (w1.setCell ⟨b, 0, none⟩ v') b 138 #[v'] ∧ Sl (w1.setCell ⟨b, 0, none⟩ v') B 175 5 v' n xs ∧ Frm (fun k => k = b) w (w1.setCell ⟨b, 0, none⟩ v') := by
 have hap := hs.apart hb (by decide)
 refine ⟨hb.set 0 v', hs.frm ((za (fun k => k = b) w1).setCell (p := ⟨b, 0, none⟩) (fun _ => rfl) v') (fun k hk h => ?_), (show Frm (fun k => k = b) w w1 from F.frm).setCell (p := ⟨b, 0, none⟩) (fun _ => rfl) v'⟩
 subst h
 exact hap hk
theorem sl_zero (w : World) (B : Nat) (hB : B ≤ w.heap.size) : Sl (w.alloc (.cells #[] 175)) B 175 5 (.slice (some ⟨w.heap.size, 0, none⟩) 0 0) 0 [] :=
 Sl.mk' hB (Blk.new w _ _) (by simp) (zf _) (by unfold maxLen; omega) (by simp) (fun j u hu => by simp at hu)
theorem ins_parts {x : Wt} {l : List Wt} : (ins x l).flatMap wcells = [] ++ (l.take (cnt x l)).flatMap wcells ++ wcells x ++ (l.drop (cnt x l)).flatMap wcells := by
 rw [wcells_ins, jQ, qC, List.nil_append]
theorem rd_drop {w : World} {B bl ol k : Nat} {xs : List Value} (h : Rd w B (some ⟨bl, ol, none⟩) xs) : Rd w B (some ⟨bl, ol + k, none⟩) (xs.drop k) := fun hx => by
 obtain ⟨b, o, hA, hb, hc⟩ := h (by rintro rfl; simp at hx)
 injection hA with hA
 injection hA with h1 h2
 subst h1 h2
 exact ⟨bl, ol + k, rfl, hb, fun j u hu => by rw [Nat.add_assoc]; exact hc _ u (by rw [← hu, List.getElem?_drop])⟩
def AddPostR (w : World) (B b : Nat) (x : Wt) (l : List Wt) (e : Ending) (w' : World) : Prop :=
 e = .returned (.int .i64 (add x l).1) ∧ StepR w B b (add x l).2 w'
set_option maxRecDepth 100000 in
theorem refAdd_any (w : World) (B b : Nat) (v : Value) (l : List Wt) (x : Wt) (h : IsR w B b v l) (hl : QueueM.Good l) :
 Calls Tryz.prog 107 #[.pointer (some ⟨b, 0, none⟩), wagg x] w fun e w' => AddPostR w B b x l e w' := by
 obtain ⟨i0, hi, hz0, hz1, hz2⟩ := info_parts info_a
 have hlen := hl.few
 have HG := zh hl
 have HQ := zh h
 clear hl h
 have HR : Hid (∀ w, Calls Tryz.prog 121 #[.agg #[.int .i64 x.id, .int .i64 x.cls, .int .i64 x.many, .int .i64 x.time, .float .f64 x.score]] w fun e w' => e = .returned (.bool (right x)) ∧ Fresh w w') := zh fun w => refRight_any x w
 have HAH : Hid (∀ (a : Wt) (w : World), Calls Tryz.prog 123 #[wagg a, .agg #[.int .i64 x.id, .int .i64 x.cls, .int .i64 x.many, .int .i64 x.time, .float .f64 x.score]] w fun e w' => e = .returned (.bool (QueueM.ahead a x)) ∧ Fresh w w') := zh fun a w => refAhead_any a x w
 have HX1 : Hid (∀ u ∈ wcells x, u.oneCell' = true) := zh (by have := jR [x]; simpa using this)
 have HADD := zh (show add x l = if right x = true then (if has x.id l = true then (7, l) else if 200 ≤ l.length then (3, l) else (0, ins x l)) else (1, l) from rfl)
 have HPARTS := zh (ins_parts (x := x) (l := l))
 have HCL := cnt_le x l
 have HINL := zh (ins_length x l)
 have HAT : Hid (∀ i (hi : i < l.length), QueueM.ahead l[i] x = decide (i < cnt x l)) := zh fun i hi => ahead_pos HG.out.sorted x i hi
 obtain ⟨cn, hcn⟩ : ∃ cn, cn = cnt x l := ⟨_, rfl⟩
 rw [← hcn] at HCL HPARTS HAT
 clear hcn
 unfold wagg
 obtain ⟨A, cap, rfl, hnc, hcm, _⟩ := HQ.out.sl.shape
 obtain ⟨xi, xc, xm, xt, xs⟩ := x
 dsimp only at HR HADD HAH ⊢
 go_in
 go_wp2_with fail
 obtain ⟨w0, hw0⟩ : ∃ w0, w.alloc (.cells #[.int .i64 xi, .int .i64 xc, .int .i64 xm, .int .i64 xt, .float .f64 xs] 175) = w0 := ⟨_, rfl⟩
 rw [hw0]
 have HF0 : Hid (Fresh w w0) := zh (by rw [← hw0]; exact (za _ w).alloc _)
 have BX : Hid (∀ w', Fresh w0 w' → Five w' w.heap.size 0 ⟨xi, xc, xm, xt, xs⟩) := zh fun w' F => by
  have B1 : Blk w0 w.heap.size 175 (wcells ⟨xi, xc, xm, xt, xs⟩).toArray := by rw [← hw0]; exact Blk.new w _ _
  exact five_blk (B1.frm F (fun f => f))
 clear hw0
 generalize hrr : right ⟨xi, xc, xm, xt, xs⟩ = r at HR HADD
 clear hrr
 refine (HR.out w0).mono ?_
 rintro e w1 ⟨rfl, f1⟩
 have HF1 := zh f1
 have HFR1 := zh (HF0.out.trans f1)
 have HQ1 := zh (HQ.out.fresh HFR1.out)
 obtain ⟨a0, a1, a2, a3, a4⟩ := BX.out w1 f1
 dsimp only at a0 a1 a2 a3 a4
 clear f1
 cases r with
 | false =>
  go_wp2_with fail
  go_ret
  rw [zk (by simp)] at HADD
  exact ⟨by rw [HADD.out]; exact rfl, by rw [HADD.out]; exact StepR.still HQ.out HFR1.out⟩
 | true =>
  rw [zl rfl] at HADD
  have HPL := zh (refPlace_any w1 B b _ l xi HQ1.out (by omega))
  rcases zI (has xi l) with hh | hh
  ·rw [hh, zl rfl] at HADD
   have hp := (plc_yes hh).1
   rw [hp] at HPL
   have hp0 : (0 : Int) ≤ (place xi l : Int) := by omega
   clear hp hh
   generalize (place xi l : Int) = p at HPL hp0
   go_wp2_with fail
   refine HPL.out.mono ?_
   rintro e w2 ⟨rfl, hw2⟩
   rw [hw2]
   clear hw2 w2
   go_wp2_with fail
   go_ret
   exact ⟨by rw [HADD.out]; exact rfl, by rw [HADD.out]; exact StepR.still HQ.out HFR1.out⟩
  ·rw [hh, zk (by simp)] at HADD
   rw [plc_no hh] at HPL
   have hc : w1.cell? ⟨b, 0, none⟩ = some (.slice A l.length cap) := HQ1.out.blk.cell 0
   clear hh
   go_wp2_with fail
   refine HPL.out.mono ?_
   rintro e w2 ⟨rfl, hw2⟩
   rw [hw2]
   clear hw2 w2
   by_cases hfew : 200 ≤ l.length
   ·rw [zl hfew] at HADD
    have hfi : (200 : Int) ≤ (l.length : Int) := by omega
    go_wp2_with fail
    go_ret
    exact ⟨by rw [HADD.out]; exact rfl, by rw [HADD.out]; exact StepR.still HQ.out HFR1.out⟩
   ·rw [zk hfew] at HADD
    have hfi : ¬ (200 : Int) ≤ (l.length : Int) := by omega
    go_wp2_with fail
    clear a0 a1 a2 a3 a4 hc
    go_loopw [6] (fun v6 wr => ∃ i : Nat, i ≤ cn ∧ v6 = .int .i64 (i : Int) ∧ Fresh w1 wr) (fun v6 _ => cn - (intOf v6).toNat)
    case atStart => exact ⟨0, by omega, rfl, za _ _⟩
    case round =>
     obtain ⟨i, hic, rfl, hf⟩ := hrel
     have HF := zh hf
     have HQR := zh (HQ1.out.fresh hf)
     have hi0 : (0 : Int) ≤ (i : Int) := by omega
     have hc0 : wr.cell? ⟨b, 0, none⟩ = some (.slice A l.length cap) := HQR.out.blk.cell 0
     by_cases hlt : i < l.length
     ·have hat := HAT.out i hlt
      obtain ⟨bl, ol, rfl, _, p5⟩ := five_at HQR.out.sl.rd hlt
      obtain ⟨y, hy⟩ : ∃ y, y = l[i] := ⟨_, rfl⟩
      rw [← hy] at p5 hat
      clear hy
      have HCA := zh (HAH.out y wr.drew)
      rw [hat] at HCA
      unfold wagg at HCA
      clear hat
      obtain ⟨yi, yc, ym, yt, ys⟩ := y
      have CELL : Hid (∀ w', Fresh wr w' → w'.cell? ⟨b, 0, none⟩ = some (.slice (some ⟨bl, ol, none⟩) l.length cap) ∧ w'.cell? ⟨bl, ol + i * 5, none⟩ = some (.int .i64 yi) ∧ w'.cell? ⟨bl, ol + i * 5 + 1, none⟩ = some (.int .i64 yc) ∧ w'.cell? ⟨bl, ol + i * 5 + 2, none⟩ = some (.int .i64 ym) ∧ w'.cell? ⟨bl, ol + i * 5 + 3, none⟩ = some (.int .i64 yt) ∧ w'.cell? ⟨bl, ol + i * 5 + 4, none⟩ = some (.float .f64 ys) ∧
       w'.cell? ⟨w.heap.size, 0, none⟩ = some (.int .i64 xi) ∧ w'.cell? ⟨w.heap.size, 1, none⟩ = some (.int .i64 xc) ∧ w'.cell? ⟨w.heap.size, 2, none⟩ = some (.int .i64 xm) ∧ w'.cell? ⟨w.heap.size, 3, none⟩ = some (.int .i64 xt) ∧ w'.cell? ⟨w.heap.size, 4, none⟩ = some (.float .f64 xs)) := zh fun w' F => by
       have c := BX.out w' ((HF1.out.trans HF.out).trans F)
       have d := p5.fresh F
       exact ⟨(HQR.out.fresh F).blk.cell 0, d.1, d.2.1, d.2.2.1, d.2.2.2.1, d.2.2.2.2, c.1, c.2.1, c.2.2.1, c.2.2.2.1, c.2.2.2.2⟩
      have hlti : (i : Int) < (l.length : Int) := by omega
      clear p5 hf hc0
      by_cases hci : i < cn
      ·rw [show decide (i < cn) = true by simpa using hci] at HCA
       go_wp2_with fail
       go_region_held3 (fun w' => w'.cell? ⟨b, 0, none⟩ = some (.slice (some ⟨bl, ol, none⟩) l.length cap) ∧ w'.cell? ⟨bl, ol + i * 5, none⟩ = some (.int .i64 yi) ∧ w'.cell? ⟨bl, ol + i * 5 + 1, none⟩ = some (.int .i64 yc) ∧ w'.cell? ⟨bl, ol + i * 5 + 2, none⟩ = some (.int .i64 ym) ∧ w'.cell? ⟨bl, ol + i * 5 + 3, none⟩ = some (.int .i64 yt) ∧ w'.cell? ⟨bl, ol + i * 5 + 4, none⟩ = some (.float .f64 ys) ∧
        w'.cell? ⟨w.heap.size, 0, none⟩ = some (.int .i64 xi) ∧ w'.cell? ⟨w.heap.size, 1, none⟩ = some (.int .i64 xc) ∧ w'.cell? ⟨w.heap.size, 2, none⟩ = some (.int .i64 xm) ∧ w'.cell? ⟨w.heap.size, 3, none⟩ = some (.int .i64 xt) ∧ w'.cell? ⟨w.heap.size, 4, none⟩ = some (.float .f64 xs))
        (first | exact CELL.out _ (za _ _) | exact CELL.out _ ((za _ _).drew) | exact CELL.out _ (((za _ _).drew).trans HF3.out))
        (first
         | (go_at_call 123; refine (HCA.out).mono ?_; rintro e w3 ⟨rfl, f3⟩; have HF3 := zh f3; clear f3))
       have HFF := zh ((HF.out.drew).trans HF3.out)
       go_wp2_with fail
       go_roundw
       case rel => exact ⟨i + 1, by omega, by go_num, HFF.out⟩
       case measure => simp [intOf]; omega
      ·rw [show decide (i < cn) = false by simpa using hci] at HCA
       obtain rfl : i = cn := by omega
       clear hci hic
       go_wp2_with fail
       go_region_held3 (fun w' => w'.cell? ⟨b, 0, none⟩ = some (.slice (some ⟨bl, ol, none⟩) l.length cap) ∧ w'.cell? ⟨bl, ol + i * 5, none⟩ = some (.int .i64 yi) ∧ w'.cell? ⟨bl, ol + i * 5 + 1, none⟩ = some (.int .i64 yc) ∧ w'.cell? ⟨bl, ol + i * 5 + 2, none⟩ = some (.int .i64 ym) ∧ w'.cell? ⟨bl, ol + i * 5 + 3, none⟩ = some (.int .i64 yt) ∧ w'.cell? ⟨bl, ol + i * 5 + 4, none⟩ = some (.float .f64 ys) ∧
        w'.cell? ⟨w.heap.size, 0, none⟩ = some (.int .i64 xi) ∧ w'.cell? ⟨w.heap.size, 1, none⟩ = some (.int .i64 xc) ∧ w'.cell? ⟨w.heap.size, 2, none⟩ = some (.int .i64 xm) ∧ w'.cell? ⟨w.heap.size, 3, none⟩ = some (.int .i64 xt) ∧ w'.cell? ⟨w.heap.size, 4, none⟩ = some (.float .f64 xs))
        (first | exact CELL.out _ (za _ _) | exact CELL.out _ ((za _ _).drew) | exact CELL.out _ (((za _ _).drew).trans HF3.out))
        (first
         | (go_at_call 123; refine (HCA.out).mono ?_; rintro e w3 ⟨rfl, f3⟩; have HF3 := zh f3; clear f3))
       have HFF := zh ((HF.out.drew).trans HF3.out)
       clear HF HCA CELL
       have HQW := zh (HQ1.out.fresh HFF.out)
       have hcw : w3.cell? ⟨b, 0, none⟩ = some (.slice (some ⟨bl, ol, none⟩) l.length cap) := HQW.out.blk.cell 0
       have hci : ¬ (cap = i) := by omega
       obtain ⟨a0, a1, a2, a3, a4⟩ := BX.out w3 (HF1.out.trans HFF.out)
       dsimp only at a0 a1 a2 a3 a4
       have RT : Hid (Rd (w3.alloc (.cells #[] 175)) w3.heap.size (some ⟨bl, ol, none⟩) ((l.take i).flatMap wcells)) := zh (by rw [jQ]; exact (HQW.out.sl.rd.take _).alloc (zf _) _)
       have RDD : Hid (∀ w', Fresh w3 w' → Rd w' w'.heap.size (some ⟨bl, ol + i * 5, none⟩) ((l.drop i).flatMap wcells)) := zh (fun w' F => by rw [qC]; exact rd_drop (HQW.out.fresh F).sl.rd)
       have hblt := HQW.out.blk.lt
       have hge := HQW.out.ge
       have S0 := zh (sl_zero w3 B (by omega))
       have hil1 : i ≤ l.length := by omega
       have HL1 : Hid (((l.take i).flatMap wcells).length = i * 5) := zh (by rw [qB, zw, Nat.min_eq_left hil1])
       have HL2 : Hid (((l.drop i).flatMap wcells).length = (l.length - i) * 5) := zh (by rw [qB, zN])
       have k0 : (0 : Int) ≤ (i : Int) := by omega
       have k1 : (i : Int) ≤ (l.length : Int) := by omega
       have k2 : (l.length : Int) ≤ (cap : Int) := by omega
       have k3 : (i : Int) ≤ (cap : Int) := by omega
       unfold maxLen at hcm
       clear hlt
       go_wp2_with (first
        | (at_builtin; refine jD _ rfl (.tmp 43) (.tmp 49) _ rfl B 175 i0 _ 5 40 Tryz.underlying136 hi hz0 hz1 hz2 rfl (by omega) (.slice (some ⟨w3.heap.size, 0, none⟩) 0 0) 0 [] rfl S0.out w3.heap.size (some ⟨bl, ol, none⟩) i cap ((l.take i).flatMap wcells) rfl HL1.out RT.out (jR _) (by unfold maxLen; omega) (by omega) (by simp; omega) ?_; intro v1 wa hs1 hf1 ha1; have HA1 : Hid (Fresh w3 wa) := zh (((za _ w3).alloc _).trans' hf1 (fun i hi hk => by have := own_at hk; omega)); obtain ⟨b0, b1, b2, b3, b4⟩ := BX.out wa ((HF1.out.trans HFF.out).trans HA1.out); dsimp only at b0 b1 b2 b3 b4; have HS1 := zh (hs1.alloc (.cells #[.int .i64 xi, .int .i64 xc, .int .i64 xm, .int .i64 xt, .float .f64 xs] 175)); have HR1 := zh (jL wa (wcells ⟨xi, xc, xm, xt, xs⟩) 175); have hsa := HA1.out.size; have HO1 : Hid (∀ k, v1.ownBlock = some k → w3.heap.size ≤ k) := zh (fun k hk => by rcases ha1 with h | h <;> rw [h] at hk <;> first | (have := own_at hk; omega) | (have := zE hk; simp at this; omega)); clear hs1 hf1 ha1)
        | (at_builtin; refine jD _ rfl (.tmp 51) (.tmp 53) _ rfl B 175 i0 _ 5 40 Tryz.underlying136 hi hz0 hz1 hz2 rfl (by omega) v1 (0 + i) _ rfl HS1.out (wa.heap.size + 1) (some ⟨wa.heap.size, 0, none⟩) 1 1 (wcells ⟨xi, xc, xm, xt, xs⟩) rfl (by rfl) HR1.out HX1.out (by unfold maxLen; omega) (by omega) (by simp; omega) ?_; intro v2 wb hs2 hf2 ha2; have HB1 : Hid (Fresh w3 wb) := zh ((HA1.out.alloc _).trans' hf2 (fun i hi hk => by have := HO1.out _ hk; omega)); have hcb : wb.cell? ⟨b, 0, none⟩ = some (.slice (some ⟨bl, ol, none⟩) l.length cap) := (HQW.out.fresh HB1.out).blk.cell 0; have HS2 := zh hs2; have hsb := HB1.out.size; have HO2 : Hid (∀ k, v2.ownBlock = some k → w3.heap.size ≤ k) := zh (fun k hk => by rcases ha2 with h | h <;> rw [h] at hk <;> first | exact HO1.out _ hk | (have := zE hk; simp at this; omega)); clear hs2 hf2 ha2)
        | (at_builtin; refine jD _ rfl (.tmp 56) (.tmp 62) _ rfl B 175 i0 _ 5 40 Tryz.underlying136 hi hz0 hz1 hz2 rfl (by omega) v2 (0 + i + 1) _ rfl HS2.out wb.heap.size (some ⟨bl, ol + i * 5, none⟩) (l.length - i) (cap - i) ((l.drop i).flatMap wcells) (by simp [Act.eval]) HL2.out (RDD.out wb HB1.out) (jR _) (by unfold maxLen; omega) (by omega) (by omega) ?_; intro v3 wc hs3 hf3 ha3; rw [show 0 + i + 1 + (l.length - i) = l.length + 1 by omega] at hs3; have HC1 : Hid (Fresh w3 wc) := zh (HB1.out.trans' hf3 (fun i hi hk => by have := HO2.out _ hk; omega)); obtain ⟨A3, c3, rfl, _⟩ := hs3.shape; have hbc := (HQW.out.fresh HC1.out).blk; have hcc : wc.cell? ⟨b, 0, none⟩ = some (.slice (some ⟨bl, ol, none⟩) l.length cap) := hbc.cell 0; have hcf := hbc.frozen 0; have HPUT := zh (putR hge (((HF0.out.trans HF1.out).trans HFF.out).trans HC1.out) hbc hs3); clear hs3 hf3 ha3 hbc))
       go_ret
       exact ⟨by rw [HADD.out]; exact rfl, by rw [HADD.out]; exact ⟨_, ⟨HPUT.out.1, hge, by show Sl _ _ _ _ _ (ins _ l).length _; rw [HINL.out, HPARTS.out]; exact HPUT.out.2.1⟩, HPUT.out.2.2⟩⟩
     ·obtain rfl : i = cn := by omega
      have hli : i = l.length := by omega
      have hlti : decide ((i : Int) < (l.length : Int)) = false := by simp; omega
      clear hc0
      have hcq : ∀ n, (wr.drewN n).cell? ⟨b, 0, none⟩ = some (.slice A l.length cap) := fun _ => HQR.out.blk.cell 0
      go_wp2_with fail
      go_quiet (fail)
      rename_i nq
      have HFF := zh (hf.drewN nq)
      clear hcq HQR HF hf hlti
      obtain ⟨w3, hw3⟩ : ∃ w3, wr.drewN nq = w3 := ⟨_, rfl⟩
      rw [hw3] at HFF ⊢
      clear hw3
      have HQW := zh (HQ1.out.fresh HFF.out)
      by_cases hci : cap = i
      ·obtain rfl : cap = l.length := by omega
       subst hci
       have hcw : w3.cell? ⟨b, 0, none⟩ = some (.slice A l.length l.length) := HQW.out.blk.cell 0
       obtain ⟨a0, a1, a2, a3, a4⟩ := BX.out w3 (HF1.out.trans HFF.out)
       dsimp only at a0 a1 a2 a3 a4
       have RT : Hid (Rd (w3.alloc (.cells #[] 175)) w3.heap.size A ((l.take l.length).flatMap wcells)) := zh (by rw [jQ]; exact (HQW.out.sl.rd.take _).alloc (zf _) _)
       have RDD : Hid (∀ w', Fresh w3 w' → Rd w' w'.heap.size A ((l.drop l.length).flatMap wcells)) := zh (fun w' F => by rw [List.drop_length]; exact Rd.nil _ _ _)
       have hblt := HQW.out.blk.lt
       have hge := HQW.out.ge
       have S0 := zh (sl_zero w3 B (by omega))
       have hil1 : l.length ≤ l.length := by omega
       have HL1 : Hid (((l.take l.length).flatMap wcells).length = l.length * 5) := zh (by rw [qB, zw, Nat.min_eq_left hil1])
       have HL2 : Hid (((l.drop l.length).flatMap wcells).length = 0 * 5) := zh (by rw [qB, zN]; omega)
       have k0 : (0 : Int) ≤ (l.length : Int) := by omega
       have k1 : (l.length : Int) ≤ (l.length : Int) := by omega
       have k2 : (l.length : Int) ≤ (l.length : Int) := by omega
       have k3 : (l.length : Int) ≤ (l.length : Int) := by omega
       unfold maxLen at hcm
       clear hlt
       go_wp2_with (first
        | (at_builtin; refine jD _ rfl (.tmp 43) (.tmp 49) _ rfl B 175 i0 _ 5 40 Tryz.underlying136 hi hz0 hz1 hz2 rfl (by omega) (.slice (some ⟨w3.heap.size, 0, none⟩) 0 0) 0 [] rfl S0.out w3.heap.size A l.length l.length ((l.take l.length).flatMap wcells) rfl HL1.out RT.out (jR _) (by unfold maxLen; omega) (by omega) (by simp; omega) ?_; intro v1 wa hs1 hf1 ha1; have HA1 : Hid (Fresh w3 wa) := zh (((za _ w3).alloc _).trans' hf1 (fun i hi hk => by have := own_at hk; omega)); obtain ⟨b0, b1, b2, b3, b4⟩ := BX.out wa ((HF1.out.trans HFF.out).trans HA1.out); dsimp only at b0 b1 b2 b3 b4; have HS1 := zh (hs1.alloc (.cells #[.int .i64 xi, .int .i64 xc, .int .i64 xm, .int .i64 xt, .float .f64 xs] 175)); have HR1 := zh (jL wa (wcells ⟨xi, xc, xm, xt, xs⟩) 175); have hsa := HA1.out.size; have HO1 : Hid (∀ k, v1.ownBlock = some k → w3.heap.size ≤ k) := zh (fun k hk => by rcases ha1 with h | h <;> rw [h] at hk <;> first | (have := own_at hk; omega) | (have := zE hk; simp at this; omega)); clear hs1 hf1 ha1)
        | (at_builtin; refine jD _ rfl (.tmp 51) (.tmp 53) _ rfl B 175 i0 _ 5 40 Tryz.underlying136 hi hz0 hz1 hz2 rfl (by omega) v1 (0 + l.length) _ rfl HS1.out (wa.heap.size + 1) (some ⟨wa.heap.size, 0, none⟩) 1 1 (wcells ⟨xi, xc, xm, xt, xs⟩) rfl (by rfl) HR1.out HX1.out (by unfold maxLen; omega) (by omega) (by simp; omega) ?_; intro v2 wb hs2 hf2 ha2; have HB1 : Hid (Fresh w3 wb) := zh ((HA1.out.alloc _).trans' hf2 (fun i hi hk => by have := HO1.out _ hk; omega)); have hcb : wb.cell? ⟨b, 0, none⟩ = some (.slice A l.length l.length) := (HQW.out.fresh HB1.out).blk.cell 0; have HS2 := zh hs2; have hsb := HB1.out.size; have HO2 : Hid (∀ k, v2.ownBlock = some k → w3.heap.size ≤ k) := zh (fun k hk => by rcases ha2 with h | h <;> rw [h] at hk <;> first | exact HO1.out _ hk | (have := zE hk; simp at this; omega)); clear hs2 hf2 ha2)
        | (at_builtin; refine jD _ rfl (.tmp 56) (.tmp 62) _ rfl B 175 i0 _ 5 40 Tryz.underlying136 hi hz0 hz1 hz2 rfl (by omega) v2 (0 + l.length + 1) _ rfl HS2.out wb.heap.size A 0 0 ((l.drop l.length).flatMap wcells) (by simp [Act.eval]) HL2.out (RDD.out wb HB1.out) (jR _) (by unfold maxLen; omega) (by omega) (by omega) ?_; intro v3 wc hs3 hf3 ha3; rw [show 0 + l.length + 1 + 0 = l.length + 1 by omega] at hs3; have HC1 : Hid (Fresh w3 wc) := zh (HB1.out.trans' hf3 (fun i hi hk => by have := HO2.out _ hk; omega)); obtain ⟨A3, c3, rfl, _⟩ := hs3.shape; have hbc := (HQW.out.fresh HC1.out).blk; have hcc : wc.cell? ⟨b, 0, none⟩ = some (.slice A l.length l.length) := hbc.cell 0; have hcf := hbc.frozen 0; have HPUT := zh (putR hge (((HF0.out.trans HF1.out).trans HFF.out).trans HC1.out) hbc hs3); clear hs3 hf3 ha3 hbc))
       go_ret
       exact ⟨by rw [HADD.out]; exact rfl, by rw [HADD.out]; exact ⟨_, ⟨HPUT.out.1, hge, by show Sl _ _ _ _ _ (ins _ l).length _; rw [HINL.out, HPARTS.out]; exact HPUT.out.2.1⟩, HPUT.out.2.2⟩⟩
      ·obtain ⟨bl, ol, rfl⟩ : ∃ bl ol, A = some ⟨bl, ol, none⟩ := by
        rcases HQ1.out.sl.2 with ⟨h, h0⟩ | ⟨g, o, c, cur, h, _⟩
        ·injection h with _ _ h
         omega
        ·injection h with h _ _
         exact ⟨g, o, h⟩
       have hcw : w3.cell? ⟨b, 0, none⟩ = some (.slice (some ⟨bl, ol, none⟩) l.length cap) := HQW.out.blk.cell 0
       clear hli
       obtain ⟨a0, a1, a2, a3, a4⟩ := BX.out w3 (HF1.out.trans HFF.out)
       dsimp only at a0 a1 a2 a3 a4
       have RT : Hid (Rd (w3.alloc (.cells #[] 175)) w3.heap.size (some ⟨bl, ol, none⟩) ((l.take i).flatMap wcells)) := zh (by rw [jQ]; exact (HQW.out.sl.rd.take _).alloc (zf _) _)
       have RDD : Hid (∀ w', Fresh w3 w' → Rd w' w'.heap.size (some ⟨bl, ol + i * 5, none⟩) ((l.drop i).flatMap wcells)) := zh (fun w' F => by rw [qC]; exact rd_drop (HQW.out.fresh F).sl.rd)
       have hblt := HQW.out.blk.lt
       have hge := HQW.out.ge
       have S0 := zh (sl_zero w3 B (by omega))
       have hil1 : i ≤ l.length := by omega
       have HL1 : Hid (((l.take i).flatMap wcells).length = i * 5) := zh (by rw [qB, zw, Nat.min_eq_left hil1])
       have HL2 : Hid (((l.drop i).flatMap wcells).length = (l.length - i) * 5) := zh (by rw [qB, zN])
       have k0 : (0 : Int) ≤ (i : Int) := by omega
       have k1 : (i : Int) ≤ (l.length : Int) := by omega
       have k2 : (l.length : Int) ≤ (cap : Int) := by omega
       have k3 : (i : Int) ≤ (cap : Int) := by omega
       unfold maxLen at hcm
       clear hlt
       go_wp2_with (first
        | (at_builtin; refine jD _ rfl (.tmp 43) (.tmp 49) _ rfl B 175 i0 _ 5 40 Tryz.underlying136 hi hz0 hz1 hz2 rfl (by omega) (.slice (some ⟨w3.heap.size, 0, none⟩) 0 0) 0 [] rfl S0.out w3.heap.size (some ⟨bl, ol, none⟩) i cap ((l.take i).flatMap wcells) rfl HL1.out RT.out (jR _) (by unfold maxLen; omega) (by omega) (by simp; omega) ?_; intro v1 wa hs1 hf1 ha1; have HA1 : Hid (Fresh w3 wa) := zh (((za _ w3).alloc _).trans' hf1 (fun i hi hk => by have := own_at hk; omega)); obtain ⟨b0, b1, b2, b3, b4⟩ := BX.out wa ((HF1.out.trans HFF.out).trans HA1.out); dsimp only at b0 b1 b2 b3 b4; have HS1 := zh (hs1.alloc (.cells #[.int .i64 xi, .int .i64 xc, .int .i64 xm, .int .i64 xt, .float .f64 xs] 175)); have HR1 := zh (jL wa (wcells ⟨xi, xc, xm, xt, xs⟩) 175); have hsa := HA1.out.size; have HO1 : Hid (∀ k, v1.ownBlock = some k → w3.heap.size ≤ k) := zh (fun k hk => by rcases ha1 with h | h <;> rw [h] at hk <;> first | (have := own_at hk; omega) | (have := zE hk; simp at this; omega)); clear hs1 hf1 ha1)
        | (at_builtin; refine jD _ rfl (.tmp 51) (.tmp 53) _ rfl B 175 i0 _ 5 40 Tryz.underlying136 hi hz0 hz1 hz2 rfl (by omega) v1 (0 + i) _ rfl HS1.out (wa.heap.size + 1) (some ⟨wa.heap.size, 0, none⟩) 1 1 (wcells ⟨xi, xc, xm, xt, xs⟩) rfl (by rfl) HR1.out HX1.out (by unfold maxLen; omega) (by omega) (by simp; omega) ?_; intro v2 wb hs2 hf2 ha2; have HB1 : Hid (Fresh w3 wb) := zh ((HA1.out.alloc _).trans' hf2 (fun i hi hk => by have := HO1.out _ hk; omega)); have hcb : wb.cell? ⟨b, 0, none⟩ = some (.slice (some ⟨bl, ol, none⟩) l.length cap) := (HQW.out.fresh HB1.out).blk.cell 0; have HS2 := zh hs2; have hsb := HB1.out.size; have HO2 : Hid (∀ k, v2.ownBlock = some k → w3.heap.size ≤ k) := zh (fun k hk => by rcases ha2 with h | h <;> rw [h] at hk <;> first | exact HO1.out _ hk | (have := zE hk; simp at this; omega)); clear hs2 hf2 ha2)
        | (at_builtin; refine jD _ rfl (.tmp 56) (.tmp 62) _ rfl B 175 i0 _ 5 40 Tryz.underlying136 hi hz0 hz1 hz2 rfl (by omega) v2 (0 + i + 1) _ rfl HS2.out wb.heap.size (some ⟨bl, ol + i * 5, none⟩) (l.length - i) (cap - i) ((l.drop i).flatMap wcells) (by simp [Act.eval]) HL2.out (RDD.out wb HB1.out) (jR _) (by unfold maxLen; omega) (by omega) (by omega) ?_; intro v3 wc hs3 hf3 ha3; rw [show 0 + i + 1 + (l.length - i) = l.length + 1 by omega] at hs3; have HC1 : Hid (Fresh w3 wc) := zh (HB1.out.trans' hf3 (fun i hi hk => by have := HO2.out _ hk; omega)); obtain ⟨A3, c3, rfl, _⟩ := hs3.shape; have hbc := (HQW.out.fresh HC1.out).blk; have hcc : wc.cell? ⟨b, 0, none⟩ = some (.slice (some ⟨bl, ol, none⟩) l.length cap) := hbc.cell 0; have hcf := hbc.frozen 0; have HPUT := zh (putR hge (((HF0.out.trans HF1.out).trans HFF.out).trans HC1.out) hbc hs3); clear hs3 hf3 ha3 hbc))
       go_ret
       exact ⟨by rw [HADD.out]; exact rfl, by rw [HADD.out]; exact ⟨_, ⟨HPUT.out.1, hge, by show Sl _ _ _ _ _ (ins _ l).length _; rw [HINL.out, HPARTS.out]; exact HPUT.out.2.1⟩, HPUT.out.2.2⟩⟩
theorem del_parts {id : Int} {l : List Wt} : (del id l).flatMap wcells = [] ++ (l.take (place id l)).flatMap wcells ++ (l.drop (place id l + 1)).flatMap wcells := by
 rw [wcells_del, jQ, qC, List.nil_append]
def RemovePostR (w : World) (B b : Nat) (id : Int) (l : List Wt) (e : Ending) (w' : World) : Prop :=
 e = .returned (.int .i64 (remove id l).1) ∧ StepR w B b (remove id l).2 w'
set_option maxRecDepth 100000 in
theorem refRemove_any (w : World) (B b : Nat) (v : Value) (l : List Wt) (id : Int) (h : IsR w B b v l) (hl : l.length ≤ 1000) :
 Calls Tryz.prog 111 #[.pointer (some ⟨b, 0, none⟩), .int .i64 id] w fun e w' => RemovePostR w B b id l e w' := by
 obtain ⟨i0, hi, hz0, hz1, hz2⟩ := info_parts info_a
 have HQ := zh h
 have HPL := zh (refPlace_any w B b v l id h hl)
 have HREM := zh (show remove id l = if has id l = true then (0, del id l) else (2, l) from rfl)
 rcases zI (has id l) with hh | hh
 ·obtain ⟨hp, hpl⟩ := plc_yes hh
  rw [hh, zl rfl] at HREM
  rw [hp] at HPL
  have HDL := zh (del_length hpl)
  have HDC := zh (del_parts (id := id) (l := l))
  generalize place id l = p at HPL hpl HDC
  clear hp hh
  obtain ⟨bl, ol, cap, rfl, _, _, hnc, hcm⟩ := h.sl.head (by omega)
  clear h
  unfold maxLen at hcm
  have hp0 : ¬ (p : Int) < 0 := by omega
  have q0 : (0 : Int) ≤ (p : Int) := by omega
  have q1 : (p : Int) ≤ (cap : Int) := by omega
  have q2 : ((p : Int) + 1).toNat = p + 1 := by omega
  have q3 : (0 : Int) ≤ (p : Int) + 1 := by omega
  have q4 : (p : Int) + 1 ≤ (l.length : Int) := by omega
  have q5 : (l.length : Int) ≤ (cap : Int) := by omega
  have q6 : (p : Int) ≤ 1000 := by omega
  have q7 : IntKind.i64.wrap ((p : Int) + 1) = (p : Int) + 1 := zm _ (by omega)
  have HL1 : Hid (((l.take p).flatMap wcells).length = p * 5) := zh (by rw [qB, zw, Nat.min_eq_left (by omega)])
  have hge := HQ.out.ge
  have hblt := HQ.out.blk.lt
  by_cases hci : cap = p + 1
  ·obtain rfl : cap = l.length := by omega
   have HL2 : Hid (((l.drop (p + 1)).flatMap wcells).length = 0 * 5) := zh (by rw [qB, zN]; omega)
   have HLEN : Hid (0 + p + 0 = l.length - 1) := zh (by omega)
   have hci' : p + 1 = l.length := by omega
   have RDD : Hid (∀ w', Fresh w w' → Rd w' w'.heap.size (some ⟨bl, ol, none⟩) ((l.drop (p + 1)).flatMap wcells)) := zh (fun w' F => by rw [List.drop_eq_nil_of_le (by omega)]; exact Rd.nil _ _ _)
   clear hci
   have S0 : Hid (Sl (w.alloc (.cells #[] 175)).drew B 175 5 (.slice (some ⟨w.heap.size, 0, none⟩) 0 0) 0 []) := zh (sl_zero w B (by omega))
   have hc1 : (w.alloc (.cells #[] 175)).drew.cell? ⟨b, 0, none⟩ = some (.slice (some ⟨bl, ol, none⟩) l.length l.length) := (HQ.out.fresh ((za _ w).alloc _)).blk.cell 0
   have RT : Hid (Rd (w.alloc (.cells #[] 175)).drew w.heap.size (some ⟨bl, ol, none⟩) ((l.take p).flatMap wcells)) := zh (by rw [jQ]; exact ((HQ.out.sl.rd.take _).alloc (zf _) _).drew)
   have hc0 : w.drew.cell? ⟨b, 0, none⟩ = some (.slice (some ⟨bl, ol, none⟩) l.length l.length) := HQ.out.blk.cell 0
   go_in
   go_wp2_with fail
   refine HPL.out.mono ?_
   rintro e w2 ⟨rfl, hw2⟩
   rw [hw2]
   clear hw2 w2
   go_wp2_with fail
   go_region_law (first
    | (refine jF (by rfl) (.tmp 12) (.tmp 18) _ (by rfl) B 175 i0 _ 5 40 Tryz.underlying136 hi hz0 hz1 hz2 rfl (by omega) (.slice (some ⟨w.heap.size, 0, none⟩) 0 0) 0 [] (by simp [Act.eval, Act.put]) S0.out w.heap.size (some ⟨bl, ol, none⟩) p l.length ((l.take p).flatMap wcells) (by simp [Act.eval, Act.put]) HL1.out RT.out (jR _) (by unfold maxLen; omega) (by omega) (by simp; omega) ?_; intro v1 wa hs1 hf1 ha1; have HA1 : Hid (Fresh w wa) := zh (((za _ w).alloc _).drew.trans' hf1 (fun i hi hk => by have := own_at hk; omega)); have HS1 := zh hs1; have hsa := HA1.out.size; have HO1 : Hid (∀ k, v1.ownBlock = some k → w.heap.size ≤ k) := zh (fun k hk => by rcases ha1 with h | h <;> rw [h] at hk <;> first | (have := own_at hk; omega) | (have := zE hk; simp at this; omega)); have hca : wa.cell? ⟨b, 0, none⟩ = some (.slice (some ⟨bl, ol, none⟩) l.length l.length) := (HQ.out.fresh HA1.out).blk.cell 0; clear hs1 hf1 ha1)
    | (refine jF (by rfl) (.tmp 19) (.tmp 26) _ (by rfl) B 175 i0 _ 5 40 Tryz.underlying136 hi hz0 hz1 hz2 rfl (by omega) v1 (0 + p) _ (by simp [Act.eval, Act.put]) HS1.out wa.heap.size (some ⟨bl, ol, none⟩) 0 0 ((l.drop (p + 1)).flatMap wcells) (by simp [Act.eval, Act.put]) HL2.out (RDD.out wa HA1.out) (jR _) (by unfold maxLen; omega) (by omega) (by omega) ?_; intro v3 wc hs3 hf3 ha3; rw [HLEN.out] at hs3; have HC1 : Hid (Fresh w wc) := zh (HA1.out.trans' hf3 (fun i hi hk => by have := HO1.out _ hk; omega)); obtain ⟨A3, c3, rfl, _⟩ := hs3.shape; have hbc := (HQ.out.fresh HC1.out).blk; have hcc : wc.cell? ⟨b, 0, none⟩ = some (.slice (some ⟨bl, ol, none⟩) l.length l.length) := hbc.cell 0; have hcf := hbc.frozen 0; have HPUT := zh (putR hge HC1.out hbc hs3); clear hs3 hf3 ha3 hbc))
   all_goals (
    go_wp2_with fail
    go_ret
    exact ⟨by rw [HREM.out]; exact rfl, by rw [HREM.out]; exact ⟨_, ⟨HPUT.out.1, hge, by show Sl _ _ _ _ _ (del id l).length _; rw [HDL.out, HDC.out]; exact HPUT.out.2.1⟩, HPUT.out.2.2⟩⟩)
  ·have HL2 : Hid (((l.drop (p + 1)).flatMap wcells).length = (l.length - (p + 1)) * 5) := zh (by rw [qB, zN])
   have HLEN : Hid (0 + p + (l.length - (p + 1)) = l.length - 1) := zh (by omega)
   have RDD : Hid (∀ w', Fresh w w' → Rd w' w'.heap.size (some ⟨bl, ol + (p + 1) * 5, none⟩) ((l.drop (p + 1)).flatMap wcells)) := zh (fun w' F => by rw [qC]; exact rd_drop (HQ.out.fresh F).sl.rd)
   have S0 : Hid (Sl (w.alloc (.cells #[] 175)).drew B 175 5 (.slice (some ⟨w.heap.size, 0, none⟩) 0 0) 0 []) := zh (sl_zero w B (by omega))
   have hc1 : (w.alloc (.cells #[] 175)).drew.cell? ⟨b, 0, none⟩ = some (.slice (some ⟨bl, ol, none⟩) l.length cap) := (HQ.out.fresh ((za _ w).alloc _)).blk.cell 0
   have RT : Hid (Rd (w.alloc (.cells #[] 175)).drew w.heap.size (some ⟨bl, ol, none⟩) ((l.take p).flatMap wcells)) := zh (by rw [jQ]; exact ((HQ.out.sl.rd.take _).alloc (zf _) _).drew)
   have hc0 : w.drew.cell? ⟨b, 0, none⟩ = some (.slice (some ⟨bl, ol, none⟩) l.length cap) := HQ.out.blk.cell 0
   go_in
   go_wp2_with fail
   refine HPL.out.mono ?_
   rintro e w2 ⟨rfl, hw2⟩
   rw [hw2]
   clear hw2 w2
   go_wp2_with fail
   go_region_law (first
    | (refine jF (by rfl) (.tmp 12) (.tmp 18) _ (by rfl) B 175 i0 _ 5 40 Tryz.underlying136 hi hz0 hz1 hz2 rfl (by omega) (.slice (some ⟨w.heap.size, 0, none⟩) 0 0) 0 [] (by simp [Act.eval, Act.put]) S0.out w.heap.size (some ⟨bl, ol, none⟩) p cap ((l.take p).flatMap wcells) (by simp [Act.eval, Act.put]) HL1.out RT.out (jR _) (by unfold maxLen; omega) (by omega) (by simp; omega) ?_; intro v1 wa hs1 hf1 ha1; have HA1 : Hid (Fresh w wa) := zh (((za _ w).alloc _).drew.trans' hf1 (fun i hi hk => by have := own_at hk; omega)); have HS1 := zh hs1; have hsa := HA1.out.size; have HO1 : Hid (∀ k, v1.ownBlock = some k → w.heap.size ≤ k) := zh (fun k hk => by rcases ha1 with h | h <;> rw [h] at hk <;> first | (have := own_at hk; omega) | (have := zE hk; simp at this; omega)); have hca : wa.cell? ⟨b, 0, none⟩ = some (.slice (some ⟨bl, ol, none⟩) l.length cap) := (HQ.out.fresh HA1.out).blk.cell 0; clear hs1 hf1 ha1)
    | (refine jF (by rfl) (.tmp 19) (.tmp 26) _ (by rfl) B 175 i0 _ 5 40 Tryz.underlying136 hi hz0 hz1 hz2 rfl (by omega) v1 (0 + p) _ (by simp [Act.eval, Act.put]) HS1.out wa.heap.size (some ⟨bl, ol + (p + 1) * 5, none⟩) (l.length - (p + 1)) (cap - (p + 1)) ((l.drop (p + 1)).flatMap wcells) (by simp [Act.eval, Act.put]) HL2.out (RDD.out wa HA1.out) (jR _) (by unfold maxLen; omega) (by omega) (by omega) ?_; intro v3 wc hs3 hf3 ha3; rw [HLEN.out] at hs3; have HC1 : Hid (Fresh w wc) := zh (HA1.out.trans' hf3 (fun i hi hk => by have := HO1.out _ hk; omega)); obtain ⟨A3, c3, rfl, _⟩ := hs3.shape; have hbc := (HQ.out.fresh HC1.out).blk; have hcc : wc.cell? ⟨b, 0, none⟩ = some (.slice (some ⟨bl, ol, none⟩) l.length cap) := hbc.cell 0; have hcf := hbc.frozen 0; have HPUT := zh (putR hge HC1.out hbc hs3); clear hs3 hf3 ha3 hbc))
   all_goals (
    go_wp2_with fail
    go_ret
    exact ⟨by rw [HREM.out]; exact rfl, by rw [HREM.out]; exact ⟨_, ⟨HPUT.out.1, hge, by show Sl _ _ _ _ _ (del id l).length _; rw [HDL.out, HDC.out]; exact HPUT.out.2.1⟩, HPUT.out.2.2⟩⟩)
 ·clear h
  rw [hh, zk (by simp)] at HREM
  rw [plc_no hh] at HPL
  clear hh
  go_in
  go_wp2_with fail
  refine HPL.out.mono ?_
  rintro e w2 ⟨rfl, hw2⟩
  rw [hw2]
  clear hw2 w2
  go_wp2_with fail
  go_ret
  exact ⟨by rw [HREM.out]; exact rfl, by rw [HREM.out]; exact StepR.still HQ.out (za _ _)⟩
set_option maxRecDepth 100000 in
theorem refFirst_any (w : World) (B b : Nat) (v : Value) (l : List Wt) (A : Option Addr) (cap : Nat) (zs : List Int) (h : IsR w B b v l) (hl : l.length ≤ 1000) (hr : ∀ x ∈ l, right x = true) (hA : Rd w w.heap.size A (zs.map (Value.int .i64))) (hz : zs.length ≤ 9223372036854775807) :
 Calls Tryz.prog 124 #[.pointer (some ⟨b, 0, none⟩), .slice A zs.length cap] w fun e w' => FirstPost w (first zs l) e w' := by
 have HQ := zh h
 have HA := zh hA
 have HR := zh hr
 obtain ⟨A1, c1, rfl, _, _, _⟩ := h.sl.shape
 have hc0 : w.cell? ⟨b, 0, none⟩ = some (.slice A1 l.length c1) := h.blk.cell 0
 have hblt := h.blk.lt
 have HL := zh h.sl.rd
 clear h hA hr
 go_in
 go_wp2_with fail
 obtain ⟨w0, hw0⟩ : ∃ w0, w.alloc (.cells #[.int .i64 0, .int .i64 0, .int .i64 0, .int .i64 0, .float .f64 0] 175) = w0 := ⟨_, rfl⟩
 rw [hw0]
 have HF0 : Hid (Fresh w w0) := zh (by rw [← hw0]; exact (za _ w).alloc _)
 have BX : Hid (Blk w0 w.heap.size 175 (wcells ⟨0, 0, 0, 0, 0⟩).toArray) := zh (by rw [← hw0]; exact Blk.new w _ _)
 clear hw0 hc0
 go_loopw [6] (fun v13 wr => ∃ i : Nat, i ≤ l.length ∧ v13 = .int .i64 (i : Int) ∧ (∀ j (hj : j < l.length), j < i → room zs l[j] = false) ∧ Fresh w0 wr) (fun v13 _ => l.length - (intOf v13).toNat)
 case atStart => exact ⟨0, by omega, rfl, fun _ _ h => by omega, za _ _⟩
 case round =>
  obtain ⟨i, hi, rfl, hno, hf⟩ := hrel
  have HNO := zh hno
  have HF := zh hf
  have hi0 : (0 : Int) ≤ (i : Int) := by omega
  have hcb : wr.cell? ⟨b, 0, none⟩ = some (.slice A1 l.length c1) := (HQ.out.fresh (HF0.out.trans hf)).blk.cell 0
  clear hno
  by_cases hlt : i < l.length
  ·obtain ⟨bl, ol, rfl, _, p5⟩ := five_at ((HL.out.fresh (zf _) (HF0.out.trans hf)).more (HF0.out.trans hf).size) hlt
   have hrt := (right_iff _).1 (HR.out _ (ze hlt))
   have HAT : Hid (∀ x, x = l[i] → room zs x = true → first zs l = some x) := zh fun x hx hr => by subst hx; exact first_at hlt HNO.out hr
   have HNX : Hid (∀ x, x = l[i] → room zs x = false → ∀ j (hj : j < l.length), j < i + 1 → room zs l[j] = false) := zh fun x hx hr j hj hji => by
    rcases zL j i with h | h
    ·exact HNO.out j hj h
    ·obtain rfl : j = i := by omega
     rw [← hx]; exact hr
   obtain ⟨x, hx⟩ : ∃ x, x = l[i] := ⟨_, rfl⟩
   have HX := zh hx
   rw [← hx] at p5 hrt
   clear hx
   obtain ⟨xi, xc, xm, xt, xs⟩ := x
   obtain ⟨c0, c1', c2, c3, c4⟩ := p5
   dsimp only at c0 c1' c2 c3 c4 hrt
   obtain ⟨c, rfl⟩ := zA hrt.2.2.1
   have hc0 : (0 : Int) ≤ (c : Int) := by omega
   have hlti : (i : Int) < (l.length : Int) := by omega
   go_wp2_with fail
   obtain ⟨W, hW⟩ : ∃ W, wr.alloc (.cells #[.int .i64 xi, .int .i64 (c : Int), .int .i64 xm, .int .i64 xt, .float .f64 xs] 175) = W := ⟨_, rfl⟩
   rw [hW]
   have FW : Fresh w0 W := by rw [← hW]; exact hf.alloc _
   have BW : Five W wr.heap.size 0 ⟨xi, (c : Int), xm, xt, xs⟩ := by
    have : Blk W wr.heap.size 175 (wcells ⟨xi, (c : Int), xm, xt, xs⟩).toArray := by rw [← hW]; exact Blk.new wr _ _
    exact five_blk this
   have BR : Blk W w.heap.size 175 (wcells ⟨0, 0, 0, 0, 0⟩).toArray := BX.out.frm FW (fun f => f)
   have HFW := zh (HF0.out.trans FW)
   have HFW0 := zh FW
   have d0 : ∀ n, (W.drewN n).cell? ⟨wr.heap.size, 0, none⟩ = some (.int .i64 xi) := fun _ => BW.1
   have d1 : ∀ n, (W.drewN n).cell? ⟨wr.heap.size, 1, none⟩ = some (.int .i64 (c : Int)) := fun _ => BW.2.1
   have d2 : ∀ n, (W.drewN n).cell? ⟨wr.heap.size, 2, none⟩ = some (.int .i64 xm) := fun _ => BW.2.2.1
   have d3 : ∀ n, (W.drewN n).cell? ⟨wr.heap.size, 3, none⟩ = some (.int .i64 xt) := fun _ => BW.2.2.2.1
   have d4 : ∀ n, (W.drewN n).cell? ⟨wr.heap.size, 4, none⟩ = some (.float .f64 xs) := fun _ => BW.2.2.2.2
   have r0 : ∀ n, (W.drewN n).cell? ⟨w.heap.size, 0, none⟩ = some (.int .i64 0) := fun _ => BR.cell 0
   have r1 : ∀ n, (W.drewN n).cell? ⟨w.heap.size, 1, none⟩ = some (.int .i64 0) := fun _ => BR.cell 1
   have r2 : ∀ n, (W.drewN n).cell? ⟨w.heap.size, 2, none⟩ = some (.int .i64 0) := fun _ => BR.cell 2
   have r3 : ∀ n, (W.drewN n).cell? ⟨w.heap.size, 3, none⟩ = some (.int .i64 0) := fun _ => BR.cell 3
   have r4 : ∀ n, (W.drewN n).cell? ⟨w.heap.size, 4, none⟩ = some (.float .f64 0) := fun _ => BR.cell 4
   have rz : ∀ n i, (W.drewN n).frozen? ⟨w.heap.size, i, none⟩ = false := fun _ _ => BR.frozen _
   have HBR := zh BR
   clear BW BR hW FW hf c0 c1' c2 c3 c4 hrt hcb
   by_cases hcl : c < zs.length
   ·obtain ⟨bz, oz, rfl, hz1⟩ := left_at ((HA.out.fresh (zf _) HFW.out).more HFW.out.size) hcl
    have z1 : ∀ n, (W.drewN n).cell? ⟨bz, oz + c, none⟩ = some (.int .i64 (zs.getD c 0)) := fun _ => hz1
    have hcli : (c : Int) < (zs.length : Int) := by omega
    have HROOM : Hid (room zs ⟨xi, (c : Int), xm, xt, xs⟩ = decide (xm ≤ zs.getD c 0)) := zh (by unfold room; simp [hcl])
    generalize zs.getD c 0 = z at z1 HROOM
    clear hz1
    by_cases hm : xm ≤ z
    ·have hyes : room zs ⟨xi, (c : Int), xm, xt, xs⟩ = true := by rw [HROOM.out]; simpa using hm
     have HFI := zh (HAT.out _ HX.out hyes)
     clear hyes
     go_wp2_with fail
     go_quiet (fail)
     rename_i nq
     go_wp2_with fail
     have HFZ : Hid (Fresh w ((((((W.drewN nq).setCell ⟨w.heap.size, 0, none⟩ (.int .i64 xi)).setCell ⟨w.heap.size, 1, none⟩ (.int .i64 (c : Int))).setCell ⟨w.heap.size, 2, none⟩ (.int .i64 xm)).setCell ⟨w.heap.size, 3, none⟩ (.int .i64 xt)).setCell ⟨w.heap.size, 4, none⟩ (.float .f64 xs))) := zh (by
      exact ((((HFW.out.drewN nq).setCell (p := ⟨w.heap.size, 0, none⟩) (fun h => by simp at h) _).setCell (p := ⟨w.heap.size, 1, none⟩) (fun h => by simp at h) _).setCell (p := ⟨w.heap.size, 2, none⟩) (fun h => by simp at h) _ |>.setCell (p := ⟨w.heap.size, 3, none⟩) (fun h => by simp at h) _).setCell (p := ⟨w.heap.size, 4, none⟩) (fun h => by simp at h) _)
     have BZ : Blk ((((((W.drewN nq).setCell ⟨w.heap.size, 0, none⟩ (.int .i64 xi)).setCell ⟨w.heap.size, 1, none⟩ (.int .i64 (c : Int))).setCell ⟨w.heap.size, 2, none⟩ (.int .i64 xm)).setCell ⟨w.heap.size, 3, none⟩ (.int .i64 xt)).setCell ⟨w.heap.size, 4, none⟩ (.float .f64 xs)) w.heap.size 175 (wcells ⟨xi, (c : Int), xm, xt, xs⟩).toArray := (((((show Blk (W.drewN nq) _ _ _ from HBR.out).set 0 _).set 1 _).set 2 _).set 3 _).set 4 _
     generalize (((((W.drewN nq).setCell ⟨w.heap.size, 0, none⟩ (.int .i64 xi)).setCell ⟨w.heap.size, 1, none⟩ (.int .i64 (c : Int))).setCell ⟨w.heap.size, 2, none⟩ (.int .i64 xm)).setCell ⟨w.heap.size, 3, none⟩ (.int .i64 xt)).setCell ⟨w.heap.size, 4, none⟩ (.float .f64 xs) = Z at HFZ BZ ⊢
     obtain ⟨y0, y1, y2, y3, y4⟩ := five_blk BZ
     dsimp only at y0 y1 y2 y3 y4
     exact zi (v := .tuple #[.agg #[.int .i64 xi, .int .i64 (c : Int), .int .i64 xm, .int .i64 xt, .float .f64 xs], .bool true]) (by simp [results, Tryz.results124, go_sem, y0, y1, y2, y3, y4]) rfl ⟨by rw [HFI.out]; rfl, HFZ.out⟩
    ·have hnot : room zs ⟨xi, (c : Int), xm, xt, xs⟩ = false := by rw [HROOM.out]; simpa using hm
     have HNX2 := zh (HNX.out _ HX.out hnot)
     clear hnot
     go_wp2_with fail
     go_quiet (fail)
     go_wp2_with fail
     go_roundw
     case rel => exact ⟨i + 1, by omega, by go_num, HNX2.out, HFW0.out.drewN _⟩
     case measure => simp [intOf]; omega
   ·have hnot : room zs ⟨xi, (c : Int), xm, xt, xs⟩ = false := by
     unfold room
     have : decide ((c : Int) < (zs.length : Int)) = false := by simp; omega
     rw [this]; rfl
    have HNX2 := zh (HNX.out _ HX.out hnot)
    have hd1 : decide ((c : Int) < (zs.length : Int)) = false := by simp; omega
    have hd2 : decide (c < zs.length) = false := by simp; omega
    clear hnot
    go_wp2_with fail
    go_quiet (fail)
    go_wp2_with fail
    go_roundw
    case rel => exact ⟨i + 1, by omega, by go_num, HNX2.out, HFW0.out.drewN _⟩
    case measure => simp [intOf]; omega
  ·have HFN := zh (first_none (left := zs) (l := l) (fun j hj => HNO.out j hj (by omega)))
   have hlti : ¬ (i : Int) < (l.length : Int) := by omega
   have BR : Blk wr w.heap.size 175 (wcells ⟨0, 0, 0, 0, 0⟩).toArray := BX.out.frm hf (fun f => f)
   have r0 : wr.cell? ⟨w.heap.size, 0, none⟩ = some (.int .i64 0) := BR.cell 0
   have r1 : wr.cell? ⟨w.heap.size, 1, none⟩ = some (.int .i64 0) := BR.cell 1
   have r2 : wr.cell? ⟨w.heap.size, 2, none⟩ = some (.int .i64 0) := BR.cell 2
   have r3 : wr.cell? ⟨w.heap.size, 3, none⟩ = some (.int .i64 0) := BR.cell 3
   have r4 : wr.cell? ⟨w.heap.size, 4, none⟩ = some (.float .f64 0) := BR.cell 4
   have rz : ∀ i, wr.frozen? ⟨w.heap.size, i, none⟩ = false := fun _ => BR.frozen _
   have HFW := zh (HF0.out.trans hf)
   have HBR := zh BR
   clear BR hf
   go_wp2_with fail
   have HFZ : Hid (Fresh w (((((wr.setCell ⟨w.heap.size, 0, none⟩ (.int .i64 0)).setCell ⟨w.heap.size, 1, none⟩ (.int .i64 0)).setCell ⟨w.heap.size, 2, none⟩ (.int .i64 0)).setCell ⟨w.heap.size, 3, none⟩ (.int .i64 0)).setCell ⟨w.heap.size, 4, none⟩ (.float .f64 0))) := zh (by
    exact (((HFW.out.setCell (p := ⟨w.heap.size, 0, none⟩) (fun h => by simp at h) _).setCell (p := ⟨w.heap.size, 1, none⟩) (fun h => by simp at h) _).setCell (p := ⟨w.heap.size, 2, none⟩) (fun h => by simp at h) _ |>.setCell (p := ⟨w.heap.size, 3, none⟩) (fun h => by simp at h) _).setCell (p := ⟨w.heap.size, 4, none⟩) (fun h => by simp at h) _)
   have BZ : Blk (((((wr.setCell ⟨w.heap.size, 0, none⟩ (.int .i64 0)).setCell ⟨w.heap.size, 1, none⟩ (.int .i64 0)).setCell ⟨w.heap.size, 2, none⟩ (.int .i64 0)).setCell ⟨w.heap.size, 3, none⟩ (.int .i64 0)).setCell ⟨w.heap.size, 4, none⟩ (.float .f64 0)) w.heap.size 175 (wcells ⟨0, 0, 0, 0, 0⟩).toArray := ((((HBR.out.set 0 _).set 1 _).set 2 _).set 3 _).set 4 _
   generalize ((((wr.setCell ⟨w.heap.size, 0, none⟩ (.int .i64 0)).setCell ⟨w.heap.size, 1, none⟩ (.int .i64 0)).setCell ⟨w.heap.size, 2, none⟩ (.int .i64 0)).setCell ⟨w.heap.size, 3, none⟩ (.int .i64 0)).setCell ⟨w.heap.size, 4, none⟩ (.float .f64 0) = Z at HFZ BZ ⊢
   obtain ⟨y0, y1, y2, y3, y4⟩ := five_blk BZ
   dsimp only at y0 y1 y2 y3 y4
   exact zi (v := .tuple #[.agg #[.int .i64 0, .int .i64 0, .int .i64 0, .int .i64 0, .float .f64 0], .bool false]) (by simp [results, Tryz.results124, go_sem, y0, y1, y2, y3, y4]) rfl ⟨by rw [HFN.out]; rfl, HFZ.out⟩
end
end Go.Proofs.YtnmokpbomeamfaaGreat

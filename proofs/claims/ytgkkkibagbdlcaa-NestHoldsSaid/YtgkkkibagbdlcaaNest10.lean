/- The laws NestSells, NestReturns, NestOther walked. -/
import Derived.Test.YtgkkkibagbdlcaaNest9
namespace Go.Proofs.Ytgkkkibagbdlcaa
open Go.RowKit NestM

/-- what is still there in a later world: limits, sales, the box of the pair -/
structure Still (w : World) (g : Nat) (t : TypeId) (cs : Array Value) (A B : Option Addr) (l s : List Int) (w' : World) : Prop where
  frm : Fresh w w'
  l : Rd w' w'.heap.size A (l.map iv)
  s : Rd w' w'.heap.size B (s.map iv)
  box : Blk w' g t cs
theorem Still.next {w w1 w2 : World} {g : Nat} {t : TypeId} {cs : Array Value} {A B : Option Addr} {l s : List Int} (h : Still w g t cs A B l s w1) (F : Fresh w1 w2) : Still w g t cs A B l s w2 :=
  ⟨h.frm.trans F, (h.l.fresh (Nat.le_refl _) F).more F.size, (h.s.fresh (Nat.le_refl _) F).more F.size, h.box.frm F (fun f => f)⟩
theorem Still.start (w : World) (t : TypeId) (cs : Array Value) {A B : Option Addr} {l s : List Int} (hl : Rd w w.heap.size A (l.map iv)) (hs : Rd w w.heap.size B (s.map iv)) : Still w w.heap.size t cs A B l s (w.alloc (.cells cs t)) :=
  ⟨(Frm.refl _ w).alloc _, (hl.alloc (Nat.le_refl _) _).more (by simp), (hs.alloc (Nat.le_refl _) _).more (by simp), Blk.new w t cs⟩

set_option maxRecDepth 100000 in
set_option maxHeartbeats 1000000 in
theorem sells_walk (w : World) (A : Option Addr) (ca : Nat) (l : List Int) (hl : IsInts .i64 w A ca l) (_ : ca * 8 ≤ 140737488351232) (B : Option Addr) (cb : Nat) (s : List Int) (hs : IsInts .i64 w B cb s) (_ : cb * 8 ≤ 140737488351232) (xs : List Int) (hx : xs.length = 2 ∧ ∀ x ∈ xs, (Lit.int .i64 x).wf = true) :
    Calls Try.prog 5 #[.slice A l.length ca, .slice B s.length cb, .agg (i64f xs).toArray] w fun e w' => e = .returned (.bool true) ∧ Below w.heap.size w w' := by
  obtain ⟨x0, x1, rfl⟩ := two_of hx.1
  show Calls _ _ #[_, _, .agg #[.int .i64 x0, .int .i64 x1]] _ _
  have hsc := hs.le
  have hsm := hs.most
  have S0 := Lib.hid (Still.start w 33 #[.int .i64 x0, .int .i64 x1] hl.rd hs.rd)
  clear hl hs hx
  go_enter Try.func5, Try.ntmps5
  go_wp2_with fail
  refine (awake_any _).mono ?_
  rintro e w1 ⟨rfl, F1⟩
  have S1 := Lib.hid (S0.out.next F1)
  clear F1
  have b0 : w1.cell? ⟨w.heap.size, 0, none⟩ = some (.int .i64 x0) := S1.out.box.cell 0
  have b1 : w1.cell? ⟨w.heap.size, 1, none⟩ = some (.int .i64 x1) := S1.out.box.cell 1
  go_wp2_with fail
  refine (sell_any w1 A ca l B cb s x0 x1 S1.out.l S1.out.s hsc hsm).mono ?_
  intro e w2 h2
  obtain ⟨A2, cap2, t2, y2, rfl, E2, F2, R2, c2, m2, q2⟩ := sold_rd h2
  have S2 := Lib.hid (S1.out.next F2)
  have HE2 := Lib.hid E2
  have HR2 := Lib.hid R2
  have HQ2 := Lib.hid q2
  clear h2 F2 E2 R2 q2 b0 b1
  have b0 : w2.cell? ⟨w.heap.size, 0, none⟩ = some (.int .i64 x0) := S2.out.box.cell 0
  have b1 : w2.cell? ⟨w.heap.size, 1, none⟩ = some (.int .i64 x1) := S2.out.box.cell 1
  go_wp2_with fail
  refine (refSell_any w2 A ca l B cb s x0 x1 S2.out.l S2.out.s hsc hsm).mono ?_
  intro e w3 h3
  obtain ⟨A3, cap3, t3, y3, rfl, E3, F3, R3, c3, m3, q3⟩ := sold_rd h3
  obtain rfl := HE2.out.same E3
  obtain rfl : t2 = t3 := HQ2.out.trans q3.symm
  have S3 := Lib.hid (S2.out.next F3)
  have HR3 := Lib.hid R3
  have HR2' := Lib.hid ((HR2.out.fresh (Nat.le_refl _) F3).more F3.size)
  have ht : t2.length ≤ 1000000 := by
    rw [HQ2.out]
    split
    · rename_i hy
      rw [plus_length]
      have ha : Asked l s x0 := by
        rcases HE2.out with ⟨h, _⟩ | ⟨h, _⟩ | ⟨_, h⟩
        · exact h
        · exact h
        · omega
      have h1 := ha.1.1.1.2.2
      have h2 := ha.1.1.1.2.1
      omega
    · simp
  clear h3 F3 E3 R3 q3 b0 b1
  go_wp2_with fail
  refine (same_any w3 A2 cap2 t2 A3 cap3 t2 HR2'.out HR3.out ht).mono ?_
  rintro e w4 ⟨r, n, rfl, rfl, hr⟩
  obtain rfl : r = true := hr.2 rfl
  have S4 := Lib.hid (S3.out.next ((Frm.refl _ w3).drewN n))
  clear hr
  have b0 : (w3.drewN n).cell? ⟨w.heap.size, 0, none⟩ = some (.int .i64 x0) := S4.out.box.cell 0
  have b1 : (w3.drewN n).cell? ⟨w.heap.size, 1, none⟩ = some (.int .i64 x1) := S4.out.box.cell 1
  generalize w3.drewN n = w4 at S4 b0 b1
  go_wp2_with fail
  refine (back_any w4 A ca l B cb s x0 x1 S4.out.l S4.out.s hsc hsm).mono ?_
  intro e w5 h5
  obtain ⟨A5, cap5, t5, y5, rfl, E5, F5, R5, c5, m5, q5⟩ := sold_rd h5
  have S5 := Lib.hid (S4.out.next F5)
  have HE5 := Lib.hid E5
  have HR5 := Lib.hid R5
  have HQ5 := Lib.hid q5
  clear h5 F5 E5 R5 q5 b0 b1
  have b0 : w5.cell? ⟨w.heap.size, 0, none⟩ = some (.int .i64 x0) := S5.out.box.cell 0
  have b1 : w5.cell? ⟨w.heap.size, 1, none⟩ = some (.int .i64 x1) := S5.out.box.cell 1
  go_wp2_with fail
  refine (refBack_any w5 A ca l B cb s x0 x1 S5.out.l S5.out.s hsc hsm).mono ?_
  intro e w6 h6
  obtain ⟨A6, cap6, t6, y6, rfl, E6, F6, R6, c6, m6, q6⟩ := sold_rd h6
  obtain rfl := HE5.out.same E6
  obtain rfl : t5 = t6 := HQ5.out.trans q6.symm
  have S6 := Lib.hid (S5.out.next F6)
  have HR6 := Lib.hid R6
  have HR5' := Lib.hid ((HR5.out.fresh (Nat.le_refl _) F6).more F6.size)
  have ht5 : t5.length ≤ 1000000 := by
    rw [HQ5.out]
    split
    · rename_i hy
      rw [plus_length]
      have ha : Asked l s x0 := by
        rcases HE5.out with ⟨h, _⟩ | ⟨_, h⟩
        · exact h
        · omega
      have h1 := ha.1.1.1.2.2
      have h2 := ha.1.1.1.2.1
      omega
    · simp
  clear h6 F6 E6 R6 q6 b0 b1
  go_wp2_with fail
  refine (same_any w6 A5 cap5 t5 A6 cap6 t5 HR5'.out HR6.out ht5).mono ?_
  rintro e w7 ⟨r, n, rfl, rfl, hr⟩
  obtain rfl : r = true := hr.2 rfl
  have S7 := Lib.hid ((S6.out.next ((Frm.refl _ w6).drewN n)).frm)
  clear hr
  go_wp2_with fail
  go_ret
  exact ⟨by simp, S7.out.below⟩
end Go.Proofs.Ytgkkkibagbdlcaa

/- What the functions of package nest compute: Right, Left. -/
import Derived.Test.YtgkkkibagbdlcaaNest
namespace Go.Proofs.Ytgkkkibagbdlcaa
open Go.RowKit NestM

theorem enter_any {P : Program} {f : FuncId} {fn : Func} {c : Code} (hf : P.funcs[f]? = some fn) (hname : (fn.name == "runtime.NumGoroutine") = false) (hb : fn.body = some c) (args : Array Value) (w : World) :
    (callFunc f args).run P w = .ok (.enter f args) w := by
  have h1 : fn.name ≠ "runtime.NumGoroutine" := by simpa using hname
  simp [callFunc, hf, h1, hb]
theorem drewN_add (w : World) (k n : Nat) : (w.drewN k).drewN n = w.drewN (k + n) := by simp [World.drewN, Nat.add_assoc]

/-- nothing is asked -/
theorem asks_nothing (A B : Option Addr) (l s : List Int) (w : World) (hl : Rd w w.heap.size A (l.map iv)) (hs : Rd w w.heap.size B (s.map iv)) : Asks 25 #[] A B l s (fun _ w' => ∃ n, w' = w.drewN n) where
  enter := fun args w => by
    have h := Lib.hid (enter_any (P := Try.prog) (f := 25) Try.func25 (by kernel_rfl) rfl args w)
    exact h.out
  rdl := fun _ _ ⟨n, h⟩ => h ▸ hl
  rds := fun _ _ ⟨n, h⟩ => h ▸ hs
  drew := fun _ _ n ⟨k, h⟩ => ⟨k + n, by subst h; exact drewN_add _ _ _⟩
  ask := fun m w' hm hok ⟨n, h⟩ => by
    refine (nothing_any _ _ _).mono ?_
    rintro e w2 ⟨rfl, rfl⟩
    exact ⟨rfl, n, h⟩
theorem right_any (w : World) (A : Option Addr) (ca : Nat) (l : List Int) (B : Option Addr) (cb : Nat) (s : List Int) (hl : Rd w w.heap.size A (l.map iv)) (hs : Rd w w.heap.size B (s.map iv)) :
    Calls Try.prog 13 #[.slice A l.length ca, .slice B s.length cb] w fun e w' => ∃ b n, e = .returned (.bool b) ∧ w' = w.drewN n ∧ (b = true ↔ Right l s) := by
  have HL := Lib.hid hl
  have HS := Lib.hid hs
  clear hl hs
  go_enter Try.func13, Try.ntmps13
  go_wp2_with fail
  refine (lefts_any _ _ A ca l B cb s _ (asks_nothing A B l s w HL.out HS.out) w ⟨0, rfl⟩).mono ?_
  rintro e w2 ⟨b, m, rfl, ⟨n, rfl⟩, hb, _⟩
  go_wp2_with fail
  go_ret
  exact ⟨b, n, rfl, rfl, hb⟩

theorem least_ask (g1 g2 : Nat) (w : World) (c y k x : Int) (h1 : Blk w g1 3 #[iv c]) (h2 : Blk w g2 3 #[iv y]) : Calls Try.prog 23 #[.int .i64 k, .int .i64 x, .pointer (some ⟨g1, 0, none⟩), .pointer (some ⟨g2, 0, none⟩)] w fun e w' => e = .returned (.tuple #[]) ∧ w' = if k ≤ c then w.setCell ⟨g2, 0, none⟩ (iv (min y x)) else w := by
  have hc1 : w.cell? ⟨g1, 0, none⟩ = some (.int .i64 c) := h1.cell 0
  have hc2 : w.cell? ⟨g2, 0, none⟩ = some (.int .i64 y) := h2.cell 0
  have hz2 := h2.frozen 0
  clear h1 h2
  by_cases h : k ≤ c
  · rw [if_pos h]
    go_enter Try.func23, Try.ntmps23
    go_wp2_with fail
    all_goals
      go_end0
      exact ⟨rfl, by congr 1; unfold iv; congr 1; omega⟩
  · go_enter Try.func23, Try.ntmps23
    go_wp2_with fail
    go_end0
    exact ⟨rfl, rfl⟩
def AskedLeft (w1 : World) (g : Nat) (l s : List Int) (c : Int) (m : Nat) (w' : World) : Prop := Frm (fun k => k = g) w1 w' ∧ Blk w' g 3 #[iv (least l s c m)]
theorem asks_left (A B : Option Addr) (l s : List Int) (c : Int) (g1 g2 : Nat) (w1 : World) (hg : g1 < g2) (h1 : Blk w1 g1 3 #[iv c]) (h2 : g2 < w1.heap.size) (hl : Rd w1 g2 A (l.map iv)) (hs : Rd w1 g2 B (s.map iv)) :
    Asks 23 #[.pointer (some ⟨g1, 0, none⟩), .pointer (some ⟨g2, 0, none⟩)] A B l s (AskedLeft w1 g2 l s c) where
  enter := fun args w => enter_any (P := Try.prog) (f := 23) Try.func23 (by kernel_rfl) rfl args w
  rdl := fun _ _ ⟨h, _⟩ => (hl.frm (by omega) h (fun p _ hp => by show ¬ (p.block = g2); omega)).more (by have := h.size; omega)
  rds := fun _ _ ⟨h, _⟩ => (hs.frm (by omega) h (fun p _ hp => by show ¬ (p.block = g2); omega)).more (by have := h.size; omega)
  drew := fun _ _ n ⟨h, hb⟩ => ⟨h.drewN n, hb⟩
  ask := fun m w' hm hok ⟨hf, hb⟩ => by
    have h1' : Blk w' g1 3 #[iv c] := h1.frm hf (by show ¬ (g1 = g2); omega)
    refine (least_ask g1 g2 w' c _ _ _ h1' hb).mono ?_
    rintro e w2 ⟨rfl, rfl⟩
    refine ⟨rfl, ?_⟩
    unfold AskedLeft
    rw [least_step hm]
    split
    · exact ⟨hf.setCell (fun _ => rfl) _, by have := hb.set 0 (iv (min (least l s c (m + 1)) (at_ l m - sfx s m))); simpa using this⟩
    · exact ⟨hf, hb⟩
/-- what Left answers -/
def LeftIs (l s : List Int) (c x e : Int) : Prop := (Right l s ∧ 0 ≤ c ∧ c < l.length ∧ x = least l s c 0 ∧ e = 0) ∨ (¬ (Right l s ∧ 0 ≤ c ∧ c < l.length) ∧ x = 0 ∧ e = 1)
def LeftPost (l s : List Int) (c : Int) (w : World) (e : Ending) (w' : World) : Prop := ∃ x y, e = .returned (.tuple #[.int .i64 x, .int .i64 y]) ∧ Fresh w w' ∧ LeftIs l s c x y
set_option maxHeartbeats 800000 in
theorem left_any (w : World) (A : Option Addr) (ca : Nat) (l : List Int) (B : Option Addr) (cb : Nat) (s : List Int) (c : Int) (hl : Rd w w.heap.size A (l.map iv)) (hs : Rd w w.heap.size B (s.map iv)) :
    Calls Try.prog 11 #[.slice A l.length ca, .slice B s.length cb, .int .i64 c] w fun e w' => LeftPost l s c w e w' := by
  have HL := Lib.hid hl
  have HS := Lib.hid hs
  clear hl hs
  go_enter Try.func11, Try.ntmps11
  go_wp2_with fail
  have F0 : Fresh w ((w.alloc (.cells #[.int .i64 c] 3)).alloc (.cells #[.int .i64 10000] 3)) := ((Frm.refl _ w).alloc _).alloc _
  have b1 : Blk ((w.alloc (.cells #[.int .i64 c] 3)).alloc (.cells #[.int .i64 10000] 3)) w.heap.size 3 #[iv c] := (Blk.new w _ _).alloc _
  have b2 : Blk ((w.alloc (.cells #[.int .i64 c] 3)).alloc (.cells #[.int .i64 10000] 3)) (w.heap.size + 1) 3 #[iv (least l s c l.length)] := by
    rw [least_end]
    have := Blk.new (w.alloc (.cells #[.int .i64 c] 3)) 3 #[.int .i64 10000]
    simpa [iv] using this
  refine (lefts_any _ _ A ca l B cb s _ (asks_left A B l s c _ _ _ (Nat.lt_succ_self _) b1 b2.lt ((HL.out.fresh (Nat.le_refl _) F0).more (Nat.le_succ _)) ((HS.out.fresh (Nat.le_refl _) F0).more (Nat.le_succ _))) _ ⟨Frm.refl _ _, b2⟩).mono ?_
  rintro e w2 ⟨b, m, rfl, ⟨hf, hb⟩, hr, hm⟩
  have F2 : Fresh w w2 := F0.trans' hf (fun i hi hk => by omega)
  have b1' : Blk w2 w.heap.size 3 #[iv c] := b1.frm hf (by show ¬ (w.heap.size = w.heap.size + 1); omega)
  have hc1 : w2.cell? ⟨w.heap.size, 0, none⟩ = some (.int .i64 c) := b1'.cell 0
  have hc2 : w2.cell? ⟨w.heap.size + 1, 0, none⟩ = some (.int .i64 (least l s c m)) := hb.cell 0
  have HR := Lib.hid hr
  clear hr hf hb b1 b2 b1'
  cases b with
  | false =>
    go_wp2_with fail
    go_ret2
    exact ⟨0, 1, rfl, F2, .inr ⟨fun h => by have := HR.out.2 h.1; simp at this, rfl, rfl⟩⟩
  | true =>
    obtain rfl := hm rfl
    by_cases h0 : c < 0
    · go_wp2_with fail
      go_ret2
      exact ⟨0, 1, rfl, F2, .inr ⟨fun h => by omega, rfl, rfl⟩⟩
    by_cases h1 : (l.length : Int) ≤ c
    · go_wp2_with fail
      go_ret2
      exact ⟨0, 1, rfl, F2, .inr ⟨fun h => by omega, rfl, rfl⟩⟩
    · go_wp2_with fail
      go_ret2
      exact ⟨_, 0, rfl, F2, .inl ⟨HR.out.1 trivial, by omega, by omega, rfl, rfl⟩⟩
end Go.Proofs.Ytgkkkibagbdlcaa

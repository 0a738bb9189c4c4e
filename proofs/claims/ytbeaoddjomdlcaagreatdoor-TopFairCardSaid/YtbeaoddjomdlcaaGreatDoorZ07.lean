/- Proved here, for the statement TopFairCardSaid: laws that its walk leans on. It holds with no condition. (Put together and shortened by a program out of many texts: Nest, Nest2, Nest3, Nest4, Nest5, Nest6.) -/
import Derived.Test.YtbeaoddjomdlcaaGreatDoorZ06
import Derived.Test.YtbeaoddjomdlcaaGreatDoorRows
import Derived.Handy
import Derived.WalkLawsBesides
import Derived.BigQuiet
set_option linter.unusedVariables false
set_option linter.unusedSimpArgs false
set_option maxRecDepth 100000
set_option maxHeartbeats 64000000
namespace Go.Proofs.YtbeaoddjomdlcaaGreatDoor
section
open Go.RowKit NestM
theorem nest_within_any (n : Int) (w : World) : Calls Tryz.prog 92 #[.int .i64 n] w fun e w' => e = .returned (.bool (wi n)) ∧ w' = w := by
  by_cases h : 0 ≤ n
  · go_in
    go_wp2_with fail
    go_ret
    exact ⟨by simp [wi, h], rfl⟩
  · go_in
    go_wp2_with fail
    go_ret
    exact ⟨by simp [wi]; omega, rfl⟩
def iv (z : Int) : Value := .int .i64 z
structure Asks (f : Nat) (caps : Array Value) (A B : Option Addr) (l s : List Int) (I : Nat → World → Prop) : Prop where
  enter : ∀ args w, (callFunc f args).run Tryz.prog w = .ok (.enter f args) w
  rdl : ∀ m w, I m w → Rd w w.heap.size A (l.map iv)
  rds : ∀ m w, I m w → Rd w w.heap.size B (s.map iv)
  drew : ∀ m w n, I m w → I m (w.drewN n)
  ask : ∀ m w, m < l.length → OkFrom l s m → I (m + 1) w → Calls Tryz.prog f (#[iv m, iv (at_ l m - sfx s m)] ++ caps) w fun e w' => e = .returned (.tuple #[]) ∧ I m w'
def LeftsPost (I : Nat → World → Prop) (l s : List Int) (e : Ending) (w' : World) : Prop := ∃ b m, e = .returned (.bool b) ∧ I m w' ∧ (b = true ↔ Right l s) ∧ (b = true → m = 0)
theorem lefts_any (f : Nat) (caps : Array Value) (A : Option Addr) (ca : Nat) (l : List Int) (B : Option Addr) (cb : Nat) (s : List Int) (I : Nat → World → Prop) (h : Asks f caps A B l s I) (w : World) (hw : I l.length w) :
    Calls Tryz.prog 97 #[.slice A l.length ca, .slice B s.length cb, .func (.func f) #[] caps] w fun e w' => LeftsPost I l s e w' := by
  by_cases hsh : Shape l s
  · obtain ⟨h1, h2, h3⟩ := hsh
    have HA := zh h
    have hcf := h.enter
    clear h
    go_in
    go_wp2_with fail
    go_loopw [7, 8, 9] (fun v7 v8 v9 wr => ∃ m : Nat, m ≤ l.length ∧ OkFrom l s m ∧ v7 = iv (sfx s m) ∧ v8 = .bool (fine l s m) ∧ v9 = iv ((m : Int) - 1) ∧ I m wr) (fun _ _ v9 _ => (RowKit.intOf v9 + 1).toNat)
    case atStart => exact ⟨l.length, Nat.le_refl _, fun j h1 h2 => by omega, by rw [sfx_end (by omega)]; rfl, by rw [fine_end], rfl, hw⟩
    case round =>
      obtain ⟨m, hm, hok, rfl, rfl, rfl, hI⟩ := hrel
      by_cases hm0 : 0 < m
      · obtain ⟨k, rfl⟩ : ∃ k, m = k + 1 := ⟨m - 1, by omega⟩
        have hkl : k < l.length := by omega
        have hks : k < s.length := by omega
        have e1 : ((k + 1 : Nat) : Int) - 1 = (k : Int) := by omega
        obtain ⟨bA, oA, rfl, _, hcA⟩ := (HA.out.rdl _ _ hI).at_ (k := k) (by simpa using hkl)
        obtain ⟨bB, oB, rfl, _, hcB⟩ := (HA.out.rds _ _ hI).at_ (k := k) (by simpa using hks)
        simp only [List.getElem_map] at hcA hcB
        rw [← at_get hkl] at hcA
        rw [← at_get hks] at hcB
        have hdA : ∀ n, (wr.drewN n).cell? ⟨bA, oA + k, none⟩ = some (.int .i64 (at_ l k)) := fun _ => hcA
        have hdB : ∀ n, (wr.drewN n).cell? ⟨bB, oB + k, none⟩ = some (.int .i64 (at_ s k)) := fun _ => hcB
        have hk0 : (0 : Int) ≤ k := by omega
        have hkl2 : (k : Int) < l.length := by omega
        have hks2 : (k : Int) < s.length := by omega
        by_cases hg : OkAt l s k
        · unfold iv
          rw [e1]
          obtain ⟨g1, g2, g3⟩ := hg
          have hb := sfx_bd h3 (l.length - (k + 1)) (k + 1) (by omega) hok
          have hb0 : 0 ≤ sfx s (k + 1) := hb.1
          have hb1 : sfx s (k + 1) ≤ 100000 := by omega
          have ga := wi_true g1
          have gb := wi_true g2
          obtain ⟨ga0, ga1⟩ := ga
          obtain ⟨gb0, gb1⟩ := gb
          have HST := zh (sfx_step hks)
          have HFS := zh (fine_step (s := s) hkl)
          clear hb
          have HOK := zh (show OkFrom l s k from fun j h1 h2 => by
            rcases Nat.eq_or_lt_of_le h1 with e | e
            · subst e; exact ⟨g1, g2, g3⟩
            · exact hok j e h2)
          have HASK0 : ∀ nq, Calls Tryz.prog f (#[Value.int IntKind.i64 ↑k, Value.int IntKind.i64 (at_ l k - (sfx s (k + 1) + at_ s k))] ++ caps) (wr.drewN nq) fun e w' => e = .returned (.tuple #[]) ∧ I k w' := by
            intro nq
            have := HA.out.ask k _ hkl HOK.out (HA.out.drew _ _ nq hI)
            rw [show sfx s (k + 1) + at_ s k = sfx s k by rw [HST.out]; omega]
            exact this
          have HASK := zh HASK0
          clear HASK0
          by_cases hkz : 0 < k
          · have g3 := g3 hkz
            obtain ⟨j, rfl⟩ : ∃ j, k = j + 1 := ⟨k - 1, by omega⟩
            obtain ⟨bA', oA', hab, _, hcA'⟩ := (HA.out.rdl _ _ hI).at_ (k := j) (by simp; omega)
            obtain ⟨rfl, rfl⟩ : bA = bA' ∧ oA = oA' := by simpa using hab
            simp only [List.getElem_map] at hcA'
            rw [← at_get (show j < l.length by omega)] at hcA'
            have hdA' : ∀ n, (wr.drewN n).cell? ⟨bA, oA + j, none⟩ = some (.int .i64 (at_ l j)) := fun _ => hcA'
            have hjl : j < l.length := by omega
            have hjl2 : (j : Int) < l.length := by omega
            simp only [Nat.add_sub_cancel] at g3
            have ga2 : ¬ at_ l j < at_ l (j + 1) := by omega
            cases hfi : fine l s (j + 1 + 1)
            · go_wp2_with fail
              go_quiet ((go_at_call 92; exact Calls.quiet_of_same (nest_within_any _ _)))
              go_wp2_with fail
              refine (HASK.out _).mono ?_
              rintro e w2 ⟨rfl, hI2⟩
              go_wp2_with fail
              go_roundw
              case rel => exact ⟨j + 1, by omega, HOK.out, by rw [HST.out]; simp [iv]; omega, by rw [HFS.out, HST.out, hfi]; simp [Int.add_comm], by simp [iv], hI2⟩
              case measure => simp [RowKit.intOf, iv]; try omega
            · go_wp2_with fail
              go_quiet ((go_at_call 92; exact Calls.quiet_of_same (nest_within_any _ _)))
              go_wp2_with fail
              refine (HASK.out _).mono ?_
              rintro e w2 ⟨rfl, hI2⟩
              go_wp2_with fail
              go_roundw
              case rel => exact ⟨j + 1, by omega, HOK.out, by rw [HST.out]; simp [iv]; omega, by rw [HFS.out, HST.out, hfi]; simp [Int.add_comm], by simp [iv], hI2⟩
              case measure => simp [RowKit.intOf, iv]; try omega
          · clear g3
            cases hfi : fine l s (k + 1)
            · go_wp2_with fail
              go_quiet ((go_at_call 92; exact Calls.quiet_of_same (nest_within_any _ _)))
              go_wp2_with fail
              refine (HASK.out _).mono ?_
              rintro e w2 ⟨rfl, hI2⟩
              go_wp2_with fail
              go_roundw
              case rel => exact ⟨k, by omega, HOK.out, by rw [HST.out]; simp [iv]; omega, by rw [HFS.out, HST.out, hfi]; simp [Int.add_comm], by simp [iv], hI2⟩
              case measure => simp [RowKit.intOf, iv]; try omega
            · go_wp2_with fail
              go_quiet ((go_at_call 92; exact Calls.quiet_of_same (nest_within_any _ _)))
              go_wp2_with fail
              refine (HASK.out _).mono ?_
              rintro e w2 ⟨rfl, hI2⟩
              go_wp2_with fail
              go_roundw
              case rel => exact ⟨k, by omega, HOK.out, by rw [HST.out]; simp [iv]; omega, by rw [HFS.out, HST.out, hfi]; simp [Int.add_comm], by simp [iv], hI2⟩
              case measure => simp [RowKit.intOf, iv]; try omega
        · have HNR := zh (show ¬ Right l s from fun hr => hg (hr.1.2 k (by omega) hkl))
          unfold iv
          rw [e1]
          cases g1 : wi (at_ l k)
          · go_wp2_with fail
            go_quiet ((go_at_call 92; exact Calls.quiet_of_same (nest_within_any _ _)))
            go_wp2_with fail
            go_ret
            exact ⟨false, k + 1, rfl, HA.out.drew _ _ _ hI, by simp; exact HNR.out, by simp⟩
          cases g2 : wi (at_ s k)
          · go_wp2_with fail
            go_quiet ((go_at_call 92; exact Calls.quiet_of_same (nest_within_any _ _)))
            go_wp2_with fail
            go_ret
            exact ⟨false, k + 1, rfl, HA.out.drew _ _ _ hI, by simp; exact HNR.out, by simp⟩
          · by_cases hkz : 0 < k
            · obtain ⟨j, rfl⟩ : ∃ j, k = j + 1 := ⟨k - 1, by omega⟩
              obtain ⟨bA', oA', hab, _, hcA'⟩ := (HA.out.rdl _ _ hI).at_ (k := j) (by simp; omega)
              obtain ⟨rfl, rfl⟩ : bA = bA' ∧ oA = oA' := by simpa using hab
              simp only [List.getElem_map] at hcA'
              rw [← at_get (show j < l.length by omega)] at hcA'
              have hdA' : ∀ n, (wr.drewN n).cell? ⟨bA, oA + j, none⟩ = some (.int .i64 (at_ l j)) := fun _ => hcA'
              have hjl : j < l.length := by omega
              have hjl2 : (j : Int) < l.length := by omega
              have ga2 : at_ l j < at_ l (j + 1) := Int.not_le.1 fun h => hg ⟨g1, g2, fun _ => h⟩
              clear hg
              go_wp2_with fail
              go_quiet ((go_at_call 92; exact Calls.quiet_of_same (nest_within_any _ _)))
              go_wp2_with fail
              go_ret
              exact ⟨false, j + 1 + 1, rfl, HA.out.drew _ _ _ hI, by simp; exact HNR.out, by simp⟩
            · exact absurd ⟨g1, g2, fun h => absurd h hkz⟩ hg
      · obtain rfl : m = 0 := by omega
        unfold iv
        go_wp2_with fail
        go_ret
        exact ⟨fine l s 0, 0, rfl, hI, ⟨fun h => ⟨⟨⟨h1, h2, h3⟩, hok⟩, h⟩, fun h => h.2⟩, fun _ => rfl⟩
  · have HNR := zh (show ¬ Right l s from fun hr => hsh hr.1.1)
    by_cases h1 : l.length < 1
    · go_in
      go_wp2_with fail
      go_ret
      exact ⟨false, l.length, rfl, hw, by simp; exact HNR.out, by simp⟩
    by_cases h2 : 8 < l.length
    · go_in
      go_wp2_with fail
      go_ret
      exact ⟨false, l.length, rfl, hw, by simp; exact HNR.out, by simp⟩
    have h3 : ((s.length : Int) != (l.length : Int)) = true := by rw [bne_iff_ne]; intro h; exact hsh ⟨by omega, by omega, by omega⟩
    clear hsh
    go_in
    go_wp2_with fail
    go_ret
    exact ⟨false, l.length, rfl, hw, by simp; exact HNR.out, by simp⟩
theorem nest_enter_any {P : Program} {f : FuncId} {fn : Func} {c : Code} (hf : P.funcs[f]? = some fn) (hname : (fn.name == "runtime.NumGoroutine") = false) (hb : fn.body = some c) (args : Array Value) (w : World) :
    (callFunc f args).run P w = .ok (.enter f args) w := by
  have h1 : fn.name ≠ "runtime.NumGoroutine" := by simpa using hname
  simp [callFunc, hf, h1, hb]
theorem nest_drewN_add (w : World) (k n : Nat) : (w.drewN k).drewN n = w.drewN (k + n) := by simp [World.drewN, Nat.add_assoc]
theorem least_ask (g1 g2 : Nat) (w : World) (c y k x : Int) (h1 : Blk w g1 3 #[iv c]) (h2 : Blk w g2 3 #[iv y]) : Calls Tryz.prog 98 #[.int .i64 k, .int .i64 x, .pointer (some ⟨g1, 0, none⟩), .pointer (some ⟨g2, 0, none⟩)] w fun e w' => e = .returned (.tuple #[]) ∧ w' = if k ≤ c then w.setCell ⟨g2, 0, none⟩ (iv (min y x)) else w := by
  have hc1 : w.cell? ⟨g1, 0, none⟩ = some (.int .i64 c) := h1.cell 0
  have hc2 : w.cell? ⟨g2, 0, none⟩ = some (.int .i64 y) := h2.cell 0
  have hz2 := h2.frozen 0
  clear h1 h2
  by_cases h : k ≤ c
  · rw [if_pos h]
    go_in
    go_wp2_with fail
    all_goals
      go_end0
      exact ⟨rfl, by congr 1; unfold iv; congr 1; omega⟩
  · go_in
    go_wp2_with fail
    go_end0
    exact ⟨rfl, rfl⟩
def AskedLeft (w1 : World) (g : Nat) (l s : List Int) (c : Int) (m : Nat) (w' : World) : Prop := Frm (fun k => k = g) w1 w' ∧ Blk w' g 3 #[iv (least l s c m)]
theorem asks_left (A B : Option Addr) (l s : List Int) (c : Int) (g1 g2 : Nat) (w1 : World) (hg : g1 < g2) (h1 : Blk w1 g1 3 #[iv c]) (h2 : g2 < w1.heap.size) (hl : Rd w1 g2 A (l.map iv)) (hs : Rd w1 g2 B (s.map iv)) :
    Asks 98 #[.pointer (some ⟨g1, 0, none⟩), .pointer (some ⟨g2, 0, none⟩)] A B l s (AskedLeft w1 g2 l s c) where
  enter := fun args w => nest_enter_any (P := Tryz.prog) (f := 98) Tryz.func98 (by kernel_rfl) rfl args w
  rdl := fun _ _ ⟨h, _⟩ => (hl.frm (by omega) h (fun p _ hp => by show ¬ (p.block = g2); omega)).more (by have := h.size; omega)
  rds := fun _ _ ⟨h, _⟩ => (hs.frm (by omega) h (fun p _ hp => by show ¬ (p.block = g2); omega)).more (by have := h.size; omega)
  drew := fun _ _ n ⟨h, hb⟩ => ⟨h.drewN n, hb⟩
  ask := fun m w' hm hok ⟨hf, hb⟩ => by
    have h1' : Blk w' g1 3 #[iv c] := h1.frm hf (by show ¬ (g1 = g2); omega)
    refine (least_ask g1 g2 w' c _ _ _ h1' hb).mono ?_
    rintro e w2 ⟨rfl, rfl⟩
    refine ⟨rfl, ?_⟩
    unfold AskedLeft
    rw [least_step hm]
    split
    · exact ⟨hf.setCell (fun _ => rfl) _, by have := hb.set 0 (iv (min (least l s c (m + 1)) (at_ l m - sfx s m))); simpa using this⟩
    · exact ⟨hf, hb⟩
def LeftIs (l s : List Int) (c x e : Int) : Prop := (Right l s ∧ 0 ≤ c ∧ c < l.length ∧ x = least l s c 0 ∧ e = 0) ∨ (¬ (Right l s ∧ 0 ≤ c ∧ c < l.length) ∧ x = 0 ∧ e = 1)
def LeftPost (l s : List Int) (c : Int) (w : World) (e : Ending) (w' : World) : Prop := ∃ x y, e = .returned (.tuple #[.int .i64 x, .int .i64 y]) ∧ Fresh w w' ∧ LeftIs l s c x y
theorem left_any (w : World) (A : Option Addr) (ca : Nat) (l : List Int) (B : Option Addr) (cb : Nat) (s : List Int) (c : Int) (hl : Rd w w.heap.size A (l.map iv)) (hs : Rd w w.heap.size B (s.map iv)) :
    Calls Tryz.prog 55 #[.slice A l.length ca, .slice B s.length cb, .int .i64 c] w fun e w' => LeftPost l s c w e w' := by
  have HL := zh hl
  have HS := zh hs
  clear hl hs
  go_in
  go_wp2_with fail
  have F0 : Fresh w ((w.alloc (.cells #[.int .i64 c] 3)).alloc (.cells #[.int .i64 10000] 3)) := ((Frm.refl _ w).alloc _).alloc _
  have b1 : Blk ((w.alloc (.cells #[.int .i64 c] 3)).alloc (.cells #[.int .i64 10000] 3)) w.heap.size 3 #[iv c] := (Blk.new w _ _).alloc _
  have b2 : Blk ((w.alloc (.cells #[.int .i64 c] 3)).alloc (.cells #[.int .i64 10000] 3)) (w.heap.size + 1) 3 #[iv (least l s c l.length)] := by
    rw [least_end]
    have := Blk.new (w.alloc (.cells #[.int .i64 c] 3)) 3 #[.int .i64 10000]
    simpa [iv] using this
  refine (lefts_any _ _ A ca l B cb s _ (asks_left A B l s c _ _ _ (Nat.lt_succ_self _) b1 b2.lt ((HL.out.fresh (Nat.le_refl _) F0).more (Nat.le_succ _)) ((HS.out.fresh (Nat.le_refl _) F0).more (Nat.le_succ _))) _ ⟨Frm.refl _ _, b2⟩).mono ?_
  rintro e w2 ⟨b, m, rfl, ⟨hf, hb⟩, hr, hm⟩
  have F2 : Fresh w w2 := F0.trans' hf (fun i hi hk => by omega)
  have b1' : Blk w2 w.heap.size 3 #[iv c] := b1.frm hf (by show ¬ (w.heap.size = w.heap.size + 1); omega)
  have hc1 : w2.cell? ⟨w.heap.size, 0, none⟩ = some (.int .i64 c) := b1'.cell 0
  have hc2 : w2.cell? ⟨w.heap.size + 1, 0, none⟩ = some (.int .i64 (least l s c m)) := hb.cell 0
  have HR := zh hr
  clear hr hf hb b1 b2 b1'
  cases b with
  | false =>
    go_wp2_with fail
    go_ret2
    exact ⟨0, 1, rfl, F2, .inr ⟨fun h => by have := HR.out.2 h.1; simp at this, rfl, rfl⟩⟩
  | true =>
    obtain rfl := hm rfl
    by_cases h0 : c < 0
    · go_wp2_with fail
      go_ret2
      exact ⟨0, 1, rfl, F2, .inr ⟨fun h => by omega, rfl, rfl⟩⟩
    by_cases h1 : (l.length : Int) ≤ c
    · go_wp2_with fail
      go_ret2
      exact ⟨0, 1, rfl, F2, .inr ⟨fun h => by omega, rfl, rfl⟩⟩
    · go_wp2_with fail
      go_ret2
      exact ⟨_, 0, rfl, F2, .inl ⟨HR.out.1 trivial, by omega, by omega, rfl, rfl⟩⟩
theorem cell_at {w : World} {B : Nat} {A : Option Addr} {l : List Int} (h : Rd w B A (l.map iv)) {k : Nat} (hk : k < l.length) : ∃ b o, A = some ⟨b, o, none⟩ ∧ w.cell? ⟨b, o + k, none⟩ = some (.int .i64 (at_ l k)) := by
  obtain ⟨b, o, hA, _, hc⟩ := h.at_ (k := k) (by simpa using hk)
  rw [List.getElem_map] at hc
  exact ⟨b, o, hA, by rw [hc, at_get hk]; rfl⟩
def Lim (l : List Int) : Prop := 1 ≤ l.length ∧ l.length ≤ 8 ∧ ∀ j, j < l.length → wi (at_ l j) = true ∧ (0 < j → at_ l j ≤ at_ l (j - 1))
def LimPost (l : List Int) (w : World) (e : Ending) (w' : World) : Prop := ∃ b n, e = .returned (.bool b) ∧ w' = w.drewN n ∧ (b = true ↔ Lim l)
def Small (s : List Int) : Prop := s.length ≤ 8 ∧ ∀ j, j < s.length → wi (at_ s j) = true
theorem sfx_part {s : List Int} (h : Small s) (i : Nat) : ∀ k, k ≤ i → i ≤ s.length → 0 ≤ sfx s k - sfx s i ∧ sfx s k - sfx s i ≤ 10000 * (i - k : Nat) := by
  intro k hk hi
  obtain ⟨d, rfl⟩ : ∃ d, i = k + d := ⟨i - k, by omega⟩
  clear hk
  induction d with
  | zero => simp
  | succ d ih =>
    have h1 := ih (by omega)
    have h2 := wi_true (h.2 (k + d) (by omega))
    have h3 := sfx_step (s := s) (k := k + d) (by omega)
    rw [show k + (d + 1) = k + d + 1 by omega]
    omega
theorem refFrom_any (w : World) (A : Option Addr) (ca : Nat) (s : List Int) (k : Nat) (hk : k ≤ s.length) (hsm : Small s) (hl : Rd w w.heap.size A (s.map iv)) :
    Calls Tryz.prog 156 #[.slice A s.length ca, .int .i64 (k : Int)] w fun e w' => e = .returned (.int .i64 (sfx s k)) ∧ w' = w := by
  have HL := zh hl
  clear hl
  go_in
  go_wp2_with fail
  go_loopw [5, 6] (fun v5 v6 wr => ∃ i : Nat, k ≤ i ∧ i ≤ s.length ∧ v5 = iv (sfx s k - sfx s i) ∧ v6 = iv i ∧ w = wr) (fun _ v6 _ => s.length - (RowKit.intOf v6).toNat)
  case atStart => exact ⟨k, Nat.le_refl _, hk, by simp [iv], rfl, rfl⟩
  case round =>
    obtain ⟨i, hki, hi, rfl, rfl, rfl⟩ := hrel
    unfold iv
    by_cases hil : i < s.length
    · obtain ⟨b, o, rfl, hc⟩ := cell_at HL.out hil
      have hi0 : (0 : Int) ≤ i := by omega
      have hs8 := hsm.1
      have hp := sfx_part hsm i k hki hi
      have hp0 : 0 ≤ sfx s k - sfx s i := hp.1
      have hp1 : sfx s k - sfx s i ≤ 100000 := by have := hsm.1; omega
      have hv := wi_true (hsm.2 i hil)
      have hv0 := hv.1
      have hv1 := hv.2
      have HST := zh (sfx_step hil)
      clear hp hv
      go_wp2_with fail
      go_roundw
      case rel => exact ⟨i + 1, by omega, by omega, by rw [HST.out]; congr 1; omega, by go_num, by first | rfl | trivial⟩
      case measure => simp [RowKit.intOf]; omega
    · obtain rfl : i = s.length := by omega
      have e : sfx s s.length = 0 := sfx_end (Nat.le_refl _)
      rw [e, Int.sub_zero]
      go_wp2_with fail
      go_ret
      exact ⟨rfl, rfl⟩
theorem refLimits_any (w : World) (A : Option Addr) (ca : Nat) (l : List Int) (hl : Rd w w.heap.size A (l.map iv)) :
    Calls Tryz.prog 121 #[.slice A l.length ca] w fun e w' => LimPost l w e w' := by
  have HL := zh hl
  clear hl
  by_cases h1 : l.length < 1
  · go_in
    go_wp2_with fail
    go_ret
    exact ⟨false, 0, rfl, rfl, by simp [Lim]; omega⟩
  by_cases h2 : 8 < l.length
  · go_in
    go_wp2_with fail
    go_ret
    exact ⟨false, 0, rfl, rfl, by simp [Lim]; omega⟩
  go_in
  go_wp2_with fail
  go_loopw [3] (fun v3 wr => ∃ i n : Nat, i ≤ l.length ∧ (∀ j, j < i → wi (at_ l j) = true ∧ (0 < j → at_ l j ≤ at_ l (j - 1))) ∧ v3 = iv i ∧ w.drewN n = wr) (fun v3 _ => l.length - (RowKit.intOf v3).toNat)
  case atStart => exact ⟨0, 0, by omega, fun j h => by omega, rfl, rfl⟩
  case round =>
    obtain ⟨i, n, hi, hok, rfl, rfl⟩ := hrel
    have HOK := zh hok
    clear hok
    unfold iv
    by_cases hil : i < l.length
    · obtain ⟨b, o, rfl, hc⟩ := cell_at HL.out hil
      have hc1 : ∀ n, (w.drewN n).cell? ⟨b, o + i, none⟩ = some (.int .i64 (at_ l i)) := fun _ => hc
      have hi0 : (0 : Int) ≤ i := by omega
      have bad0 : ∀ (_ : at_ l i < 0 ∨ 10000 < at_ l i ∨ (0 < i ∧ at_ l (i - 1) < at_ l i)), ¬ Lim l := by
        intro h hl
        obtain ⟨_, _, h3⟩ := hl
        have := h3 i hil
        have h4 := wi_true this.1
        rcases h with h | h | h
        · omega
        · omega
        · have := this.2 h.1; omega
      have bad := zh bad0
      clear bad0
      generalize hx0 : at_ l i = x at bad hc hc1
      have hx := zh hx0
      clear hx0
      by_cases g1 : x < 0
      · go_wp2_with fail
        go_quiet (fail)
        go_wp2_with fail
        go_ret
        exact ⟨false, n + nq, rfl, nest_drewN_add _ _ _, by simpa using bad.out (.inl g1)⟩
      by_cases g2 : 10000 < x
      · have d1 : decide (x < 0) = false := by simp; omega
        have d2 : decide (10000 < x) = true := by simp; omega
        go_wp2_with fail
        go_quiet (fail)
        go_wp2_with fail
        go_ret
        exact ⟨false, n + nq, rfl, nest_drewN_add _ _ _, by simpa using bad.out (.inr (.inl g2))⟩
      have d1 : decide (x < 0) = false := by simp; omega
      have d2 : decide (10000 < x) = false := by simp; omega
      by_cases hz : 0 < i
      · obtain ⟨j, rfl⟩ : ∃ j, i = j + 1 := ⟨i - 1, by omega⟩
        obtain ⟨b', o', hab, hc'⟩ := cell_at HL.out (show j < l.length by omega)
        obtain ⟨rfl, rfl⟩ : b = b' ∧ o = o' := by simpa using hab
        have hc1' : ∀ n, (w.drewN n).cell? ⟨b, o + j, none⟩ = some (.int .i64 (at_ l j)) := fun _ => hc'
        have hjl : j < l.length := by omega
        have hjl2 : (j : Int) < l.length := by omega
        generalize hy0 : at_ l j = y at hc' hc1' bad
        have hy := zh hy0
        clear hy0
        by_cases g3 : y < x
        · have d3 : decide (y < x) = true := by simp; omega
          go_wp2_with fail
          go_quiet (fail)
          go_wp2_with fail
          go_ret
          exact ⟨false, n + nq, rfl, nest_drewN_add _ _ _, by simp; exact bad.out (.inr (.inr ⟨hz, by simp; rw [hy.out]; exact g3⟩))⟩
        · have d3 : decide (y < x) = false := by simp; omega
          go_wp2_with fail
          go_quiet (fail)
          go_wp2_with fail
          go_roundw
          case rel => exact ⟨j + 1 + 1, n + nq, by omega, (fun k hk => by
            rcases Nat.lt_or_ge k (j + 1) with e | e
            · exact HOK.out k e
            · obtain rfl : k = j + 1 := by omega
              exact ⟨wi_mk (by rw [hx.out]; omega), fun _ => by simp; rw [hx.out, hy.out]; omega⟩), by go_num, by first | rfl | trivial⟩
          case measure => simp [RowKit.intOf]; omega
      · go_wp2_with fail
        go_quiet (fail)
        go_wp2_with fail
        go_roundw
        case rel => exact ⟨i + 1, n + nq, by omega, (fun k hk => by
          rcases Nat.lt_or_ge k i with e | e
          · exact HOK.out k e
          · obtain rfl : k = i := by omega
            exact ⟨wi_mk (by rw [hx.out]; omega), fun h => absurd h hz⟩), by go_num, by first | rfl | trivial⟩
        case measure => simp [RowKit.intOf]; omega
    · obtain rfl : i = l.length := by omega
      go_wp2_with fail
      go_ret
      exact ⟨true, n, rfl, rfl, by simp; exact ⟨by omega, by omega, HOK.out⟩⟩
def RightPost (l s : List Int) (w : World) (e : Ending) (w' : World) : Prop := ∃ b n, e = .returned (.bool b) ∧ w' = w.drewN n ∧ (b = true ↔ Right l s)
theorem rd_drawn {w : World} {A : Option Addr} {xs : List Value} (h : Rd w w.heap.size A xs) (n : Nat) : Rd (w.drewN n) (w.drewN n).heap.size A xs := h
theorem nest_refRight_any (w : World) (A : Option Addr) (ca : Nat) (l : List Int) (B : Option Addr) (cb : Nat) (s : List Int) (hl : Rd w w.heap.size A (l.map iv)) (hs : Rd w w.heap.size B (s.map iv)) :
    Calls Tryz.prog 124 #[.slice A l.length ca, .slice B s.length cb] w fun e w' => RightPost l s w e w' := by
  have HL := zh hl
  have HS := zh hs
  clear hl hs
  go_in
  go_wp2_with fail
  refine (refLimits_any w A ca l HL.out).mono ?_
  rintro e w1 ⟨b, n, rfl, rfl, hb⟩
  have HB := zh hb
  clear hb
  have HNO := zh (show ¬ Lim l → ¬ Right l s from fun h hr => h ⟨hr.1.1.1, hr.1.1.2.1, fun j hj => ⟨(hr.1.2 j (by omega) hj).1, (hr.1.2 j (by omega) hj).2.2⟩⟩)
  cases b with
  | false =>
    go_wp2_with fail
    go_ret
    exact ⟨false, n, rfl, rfl, by simp; exact HNO.out (fun h => by have := HB.out.2 h; simp at this)⟩
  | true =>
    have hlim := HB.out.1 rfl
    have HLIM := zh hlim
    have h1 := hlim.1
    have h2 := hlim.2.1
    clear hlim HNO HB
    by_cases h3 : s.length = l.length
    · go_wp2_with fail
      go_loopw [6] (fun v6 wr => ∃ i m : Nat, i ≤ s.length ∧ (∀ j, j < i → wi (at_ s j) = true) ∧ v6 = iv i ∧ w.drewN m = wr) (fun v6 _ => s.length - (RowKit.intOf v6).toNat)
      case atStart => exact ⟨0, n, by omega, fun j h => by omega, rfl, by first | rfl | trivial⟩
      case round =>
        obtain ⟨i, m, hi, hok, rfl, rfl⟩ := hrel
        have HOK := zh hok
        clear hok
        unfold iv
        by_cases hil : i < s.length
        · obtain ⟨b, o, rfl, hc⟩ := cell_at HS.out hil
          have hc1 : ∀ n, (w.drewN n).cell? ⟨b, o + i, none⟩ = some (.int .i64 (at_ s i)) := fun _ => hc
          have hi0 : (0 : Int) ≤ i := by omega
          generalize hx0 : at_ s i = x at hc hc1
          have hx := zh hx0
          clear hx0
          have bad := zh (show x < 0 ∨ 10000 < x → ¬ Right l s from fun h hr => by
            have := wi_true (hr.1.2 i (by omega) (by omega)).2.1
            rw [hx.out] at this
            omega)
          by_cases g1 : x < 0
          · have d1 : decide (x < 0) = true := by simp; omega
            go_wp2_with fail
            go_ret
            exact ⟨false, m, rfl, rfl, by simpa using bad.out (.inl g1)⟩
          have d1 : decide (x < 0) = false := by simp; omega
          by_cases g2 : 10000 < x
          · have d2 : decide (10000 < x) = true := by simp; omega
            go_wp2_with fail
            go_ret
            exact ⟨false, m, rfl, rfl, by simpa using bad.out (.inr g2)⟩
          · have d2 : decide (10000 < x) = false := by simp; omega
            go_wp2_with fail
            go_roundw
            case rel => exact ⟨i + 1, m, by omega, (fun k hk => by
              rcases Nat.lt_or_ge k i with e | e
              · exact HOK.out k e
              · obtain rfl : k = i := by omega
                exact wi_mk (by rw [hx.out]; omega)), by go_num, by first | rfl | trivial⟩
            case measure => simp [RowKit.intOf]; omega
        · obtain rfl : i = l.length := by omega
          have HSM := zh (show Small s from ⟨by omega, fun j hj => HOK.out j (by omega)⟩)
          have HO := zh (show Ok l s from ⟨⟨by omega, by omega, by omega⟩, fun j _ hj => ⟨(HLIM.out.2.2 j hj).1, HOK.out j (by omega), (HLIM.out.2.2 j hj).2⟩⟩)
          go_wp2_with fail
          go_loopw [7] (fun v7 wr => ∃ i m : Nat, i ≤ l.length ∧ (∀ j, j < i → sfx s j ≤ at_ l j) ∧ v7 = iv i ∧ w.drewN m = wr) (fun v7 _ => l.length - (RowKit.intOf v7).toNat)
          case atStart => exact ⟨0, m, by omega, fun j h => by omega, rfl, by first | rfl | trivial⟩
          case round =>
            obtain ⟨i, m, hi, hok, rfl, rfl⟩ := hrel
            have HOK2 := zh hok
            clear hok
            unfold iv
            by_cases hil : i < l.length
            · obtain ⟨b, o, rfl, hc⟩ := cell_at HL.out hil
              have hc1 : ∀ n, (w.drewN n).cell? ⟨b, o + i, none⟩ = some (.int .i64 (at_ l i)) := fun _ => hc
              have hi0 : (0 : Int) ≤ i := by omega
              generalize hx0 : at_ l i = x at hc hc1
              have hx := zh hx0
              clear hx0
              have hFR : ∀ x, Calls Tryz.prog 156 #[.slice B s.length cb, .int .i64 (i : Int)] (w.drewN (m + x)) fun e w' => e = .returned (.int .i64 (sfx s i)) ∧ ∃ n, w' = w.drewN (m + n) :=
                fun x => (refFrom_any (w.drewN (m + x)) B cb s i (by omega) HSM.out (rd_drawn HS.out (m + x))).mono fun e w' h => ⟨h.1, x, h.2⟩
              generalize hy0 : sfx s i = y at hFR
              have hy := zh hy0
              clear hy0
              rw [h3] at hFR
              have HFR := zh hFR
              clear hFR
              by_cases g1 : x < y
              · have d1 : decide (x < y) = true := by simp; omega
                go_wp2_with fail
                go_quiet ((go_at_call 156; exact HFR.out _))
                go_wp2_with fail
                go_ret
                exact ⟨false, m + nq, rfl, nest_drewN_add _ _ _, by
                  simp
                  intro hr
                  have := (fine_iff l s 0 (Nat.zero_le _)).1 hr.2 i (Nat.zero_le _) hil
                  rw [hx.out, hy.out] at this
                  omega⟩
              · have d1 : decide (x < y) = false := by simp; omega
                go_wp2_with fail
                go_quiet ((go_at_call 156; exact HFR.out _))
                go_wp2_with fail
                go_roundw
                case rel => exact ⟨i + 1, m + nq, by omega, (fun k hk => by
                  rcases Nat.lt_or_ge k i with e | e
                  · exact HOK2.out k e
                  · obtain rfl : k = i := by omega
                    rw [hx.out, hy.out]; omega), by go_num, by first | rfl | trivial⟩
                case measure => simp [RowKit.intOf]; omega
            · obtain rfl : i = l.length := by omega
              go_wp2_with fail
              go_ret
              exact ⟨true, m, rfl, rfl, by simp; exact ⟨HO.out, (fine_iff l s 0 (Nat.zero_le _)).2 fun j _ hj => HOK2.out j hj⟩⟩
    · have h3 : ((s.length : Int) != (l.length : Int)) = true := by rw [bne_iff_ne]; intro h; exact h3 (by omega)
      go_wp2_with fail
      go_ret
      exact ⟨false, n, rfl, rfl, by simp; intro hr; have := hr.1.1.2.2; simp at h3; omega⟩
theorem LeftIs.same {l s : List Int} {c x y x' y' : Int} (h : LeftIs l s c x y) (h' : LeftIs l s c x' y') : x = x' ∧ y = y' := by
  rcases h with ⟨a, b, c, d, e⟩ | ⟨a, b, c⟩ <;> rcases h' with ⟨a', b', c', d', e'⟩ | ⟨a', b', c'⟩
  · exact ⟨d.trans d'.symm, e.trans e'.symm⟩
  · exact absurd ⟨a, b, c⟩ a'
  · exact absurd ⟨a', b', c'⟩ a
  · exact ⟨b.trans b'.symm, c.trans c'.symm⟩
end
end Go.Proofs.YtbeaoddjomdlcaaGreatDoor

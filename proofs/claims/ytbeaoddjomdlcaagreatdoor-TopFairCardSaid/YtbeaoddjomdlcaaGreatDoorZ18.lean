/- Proved here, for the statement TopFairCardSaid: laws that its walk leans on. It holds with no condition. (Put together and shortened by a program out of many texts: To19, To20, To21.) -/
import Derived.Test.YtbeaoddjomdlcaaGreatDoorZ16
import Derived.Test.YtbeaoddjomdlcaaGreatDoorZ17
set_option linter.unusedVariables false
set_option linter.unusedSimpArgs false
set_option maxRecDepth 100000
set_option maxHeartbeats 64000000
namespace Go.Proofs.YtbeaoddjomdlcaaGreatDoor
section
open Go.RowKit Go.Maps Go.Sort Go.Shelf
theorem fresh_of_below {w w' : World} (h : Below w.heap.size w w') : Fresh w w' := (Frm.of_below h).mono (fun k hk e => by omega)
def KeysPost (w : World) (m : Int → Option Value) (e : Ending) (w' : World) : Prop :=
  ∃ (v : Value) (l : List Int), e = .returned v ∧ l.Pairwise (· < ·) ∧ (∀ k, k ∈ l ↔ (m k).isSome = true) ∧ l.length ≤ 30000001 ∧ Sl w' w.heap.size 3 1 v l.length (ivs l) ∧ Fresh w w'
def CollPost (w : World) (m : Int → Option Value) (e : Ending) (w' : World) : Prop :=
  ∃ (v : Value) (l : List Int), e = .returned v ∧ l.Nodup ∧ (∀ k, k ∈ l ↔ (m k).isSome = true) ∧ l.length ≤ 30000001 ∧ Sl w' w.heap.size 3 1 v l.length (ivs l) ∧ Fresh w w'
theorem to_sortsA (m : Nat) : AnyZI.SortsIn Tryz.prog Tryz.sortedA_ren Fence.wide m :=
  ⟨fun blk off cap ss W hH hblk hsz => callsIn_wide.2 (AnyM.slices_Sort_int Tryz.sortA blk off cap ss W hH hblk hsz),
   fun p cap W => callsIn_wide.2 (AnyM.slices_Sort_int_none Tryz.sortA p cap W)⟩
theorem sorted_keys {ss ks : List Int} (hp : ss.Perm ks) (hn : ks.Nodup) : (ss.mergeSort (fun x y => decide (x ≤ y))).Pairwise (· < ·) := by
  have tr : ∀ a b c : Int, decide (a ≤ b) = true → decide (b ≤ c) = true → decide (a ≤ c) = true := fun a b c h1 h2 => by simp only [decide_eq_true_eq] at *; omega
  have to : ∀ a b : Int, (decide (a ≤ b) || decide (b ≤ a)) = true := fun a b => by simp only [Bool.or_eq_true, decide_eq_true_eq]; omega
  have h1 := List.pairwise_mergeSort tr to ss
  have h2 : (ss.mergeSort (fun x y => decide (x ≤ y))).Nodup := ((List.mergeSort_perm ss _).trans hp).nodup_iff.2 hn
  refine (h1.and h2).imp ?_
  rintro a b ⟨h3, h4⟩
  simp only [decide_eq_true_eq] at h3
  omega
theorem sorted_gives {w w' : World} {D : DV} {m : Int → Option Value} {v : Value} {ss : List Int} (hn : (intKeys D).Nodup) (hk : ∀ k, k ∈ intKeys D ↔ (m k).isSome = true) (hl : (intKeys D).length ≤ 30000001)
    (hS : ss.Perm (intKeys D)) (hrow : w'.ownsRow w.heap.size 3 1 v ss.length ((ss.mergeSort (fun x y => decide (x ≤ y))).map encZ)) (hb : Below w.heap.size w w') : KeysPost w m (.returned v) w' := by
  have hlen : (ss.mergeSort (fun x y => decide (x ≤ y))).length = ss.length := List.length_mergeSort ss
  refine ⟨v, _, rfl, sorted_keys hS hn, fun k => ?_, by rw [hlen, hS.length_eq]; exact hl, ?_, fresh_of_below hb⟩
  · rw [← hk k, List.mem_mergeSort]
    exact hS.mem_iff
  · rw [hlen]
    exact Sl.of_row hrow
theorem keysBk_any (mb : Option Nat) (W : World) : Calls Tryz.prog 31 #[.map mb] W fun e w' => e = .returned (.func (.func 67) #[] #[.pointer (some ⟨W.heap.size, 0, none⟩)]) ∧ w' = W.alloc (.cells #[.map mb] 43) :=
  (callsIn_wide (n := 5)).1 (AnyZI.keys_in Tryz.keysA Fence.wide 5 trivial rfl mb W)
theorem seqBk_gives (w : World) (b : Nat) (D : DV) (hown : w.ownsMap Tryz.prog 3 anyE b (Maps.size D) D) (n : Nat) (hn : 1 ≤ n) :
    SeqGives Fence.wide n Tryz.prog 67 #[.pointer (some ⟨w.heap.size, 0, none⟩)] encZ (fun ss => ss.Perm (intKeys D)) (Maps.size D) (w.alloc (.cells #[.map (some b)] 43)) :=
  AnyZI.keys_gives (ρ := Tryz.keysA_ren) { Tryz.keysA with } Fence.wide _ trivial rfl hn w.heap.size b _ D _ (by simp) (by simp) (by
    obtain ⟨es, clock, hb, Ft, hs, hD⟩ := hown
    exact ⟨es, clock, (Below.heap_alloc _ _ b (World.ownsMap.lt ⟨es, clock, hb, Ft, hs, hD⟩)).trans hb, Ft, hs, hD⟩)
theorem sortedBk_any (w : World) (b : Nat) (m : Int → Option Value) (h : MapV w b m) (hb : KB m) :
    Calls Tryz.prog 30 #[.func (.func 67) #[] #[.pointer (some ⟨w.heap.size, 0, none⟩)]] (w.alloc (.cells #[.map (some b)] 43)) fun e w' => KeysPost (w.alloc (.cells #[.map (some b)] 43)) m e w' := by
  obtain ⟨D, h1, h2, h3, h4, h5⟩ := h.keys
  have hsz := h.size_le hb h1 h3 h2
  refine Calls.mono ((callsIn_wide (n := 5)).1 (AnyZI.sorted_in Tryz.sortedA Fence.wide 5 trivial trivial trivial trivial rfl (by omega) (to_sortsA _) (enters_of Tryz.func66 (by kernel_rfl) rfl) 67 #[.pointer (some ⟨w.heap.size, 0, none⟩)] trivial (enters_of Tryz.func67 (by kernel_rfl) rfl) _ _ (by unfold maxLen; omega) (by omega) _ (seqBk_gives w b D h1 _ (by omega)))) ?_
  rintro e w' ⟨v, ss, rfl, hS, hrow, _, hbl⟩
  exact sorted_gives h2 h3 (by omega) hS hrow hbl
theorem keysPl_any (mb : Option Nat) (W : World) : Calls Tryz.prog 33 #[.map mb] W fun e w' => e = .returned (.func (.func 69) #[] #[.pointer (some ⟨W.heap.size, 0, none⟩)]) ∧ w' = W.alloc (.cells #[.map mb] 42) :=
  (callsIn_wide (n := 5)).1 (AnyZI.keys_in Tryz.keysB Fence.wide 5 trivial rfl mb W)
theorem seqPl_gives (w : World) (b : Nat) (D : DV) (hown : w.ownsMap Tryz.prog 3 anyE b (Maps.size D) D) (n : Nat) (hn : 1 ≤ n) :
    SeqGives Fence.wide n Tryz.prog 69 #[.pointer (some ⟨w.heap.size, 0, none⟩)] encZ (fun ss => ss.Perm (intKeys D)) (Maps.size D) (w.alloc (.cells #[.map (some b)] 42)) :=
  AnyZI.keys_gives (ρ := Tryz.keysB_ren) { Tryz.keysB with } Fence.wide _ trivial rfl hn w.heap.size b _ D _ (by simp) (by simp) (by
    obtain ⟨es, clock, hb, Ft, hs, hD⟩ := hown
    exact ⟨es, clock, (Below.heap_alloc _ _ b (World.ownsMap.lt ⟨es, clock, hb, Ft, hs, hD⟩)).trans hb, Ft, hs, hD⟩)
theorem sortedPl_any (w : World) (b : Nat) (m : Int → Option Value) (h : MapV w b m) (hb : KB m) :
    Calls Tryz.prog 30 #[.func (.func 69) #[] #[.pointer (some ⟨w.heap.size, 0, none⟩)]] (w.alloc (.cells #[.map (some b)] 42)) fun e w' => KeysPost (w.alloc (.cells #[.map (some b)] 42)) m e w' := by
  obtain ⟨D, h1, h2, h3, h4, h5⟩ := h.keys
  have hsz := h.size_le hb h1 h3 h2
  refine Calls.mono ((callsIn_wide (n := 5)).1 (AnyZI.sorted_in Tryz.sortedA Fence.wide 5 trivial trivial trivial trivial rfl (by omega) (to_sortsA _) (enters_of Tryz.func66 (by kernel_rfl) rfl) 69 #[.pointer (some ⟨w.heap.size, 0, none⟩)] trivial (enters_of Tryz.func69 (by kernel_rfl) rfl) _ _ (by unfold maxLen; omega) (by omega) _ (seqPl_gives w b D h1 _ (by omega)))) ?_
  rintro e w' ⟨v, ss, rfl, hS, hrow, _, hbl⟩
  exact sorted_gives h2 h3 (by omega) hS hrow hbl
theorem keysHo_any (mb : Option Nat) (W : World) : Calls Tryz.prog 132 #[.map mb] W fun e w' => e = .returned (.func (.func 157) #[] #[.pointer (some ⟨W.heap.size, 0, none⟩)]) ∧ w' = W.alloc (.cells #[.map mb] 130) :=
  (callsIn_wide (n := 5)).1 (AnyZI.keys_in Tryz.keysC Fence.wide 5 trivial rfl mb W)
theorem seqHo_gives (w : World) (b : Nat) (D : DV) (hown : w.ownsMap Tryz.prog 3 anyE b (Maps.size D) D) (n : Nat) (hn : 1 ≤ n) :
    SeqGives Fence.wide n Tryz.prog 157 #[.pointer (some ⟨w.heap.size, 0, none⟩)] encZ (fun ss => ss.Perm (intKeys D)) (Maps.size D) (w.alloc (.cells #[.map (some b)] 130)) :=
  AnyZI.keys_gives (ρ := Tryz.keysC_ren) { Tryz.keysC with } Fence.wide _ trivial rfl hn w.heap.size b _ D _ (by simp) (by simp) (by
    obtain ⟨es, clock, hb, Ft, hs, hD⟩ := hown
    exact ⟨es, clock, (Below.heap_alloc _ _ b (World.ownsMap.lt ⟨es, clock, hb, Ft, hs, hD⟩)).trans hb, Ft, hs, hD⟩)
theorem sortedHo_any (w : World) (b : Nat) (m : Int → Option Value) (h : MapV w b m) (hb : KB m) :
    Calls Tryz.prog 30 #[.func (.func 157) #[] #[.pointer (some ⟨w.heap.size, 0, none⟩)]] (w.alloc (.cells #[.map (some b)] 130)) fun e w' => KeysPost (w.alloc (.cells #[.map (some b)] 130)) m e w' := by
  obtain ⟨D, h1, h2, h3, h4, h5⟩ := h.keys
  have hsz := h.size_le hb h1 h3 h2
  refine Calls.mono ((callsIn_wide (n := 5)).1 (AnyZI.sorted_in Tryz.sortedA Fence.wide 5 trivial trivial trivial trivial rfl (by omega) (to_sortsA _) (enters_of Tryz.func66 (by kernel_rfl) rfl) 157 #[.pointer (some ⟨w.heap.size, 0, none⟩)] trivial (enters_of Tryz.func157 (by kernel_rfl) rfl) _ _ (by unfold maxLen; omega) (by omega) _ (seqHo_gives w b D h1 _ (by omega)))) ?_
  rintro e w' ⟨v, ss, rfl, hS, hrow, _, hbl⟩
  exact sorted_gives h2 h3 (by omega) hS hrow hbl
theorem keysOw_any (mb : Option Nat) (W : World) : Calls Tryz.prog 74 #[.map mb] W fun e w' => e = .returned (.func (.func 116) #[] #[.pointer (some ⟨W.heap.size, 0, none⟩)]) ∧ w' = W.alloc (.cells #[.map mb] 131) :=
  (callsIn_wide (n := 5)).1 (AnyZI.keys_in Tryz.keysD Fence.wide 5 trivial rfl mb W)
theorem seqOw_gives (w : World) (b : Nat) (D : DV) (hown : w.ownsMap Tryz.prog 3 anyE b (Maps.size D) D) (n : Nat) (hn : 1 ≤ n) :
    SeqGives Fence.wide n Tryz.prog 116 #[.pointer (some ⟨w.heap.size, 0, none⟩)] encZ (fun ss => ss.Perm (intKeys D)) (Maps.size D) (w.alloc (.cells #[.map (some b)] 131)) :=
  AnyZI.keys_gives (ρ := Tryz.keysD_ren) { Tryz.keysD with } Fence.wide _ trivial rfl hn w.heap.size b _ D _ (by simp) (by simp) (by
    obtain ⟨es, clock, hb, Ft, hs, hD⟩ := hown
    exact ⟨es, clock, (Below.heap_alloc _ _ b (World.ownsMap.lt ⟨es, clock, hb, Ft, hs, hD⟩)).trans hb, Ft, hs, hD⟩)
theorem collOw_any (w : World) (b : Nat) (m : Int → Option Value) (h : MapV w b m) (hb : KB m) :
    Calls Tryz.prog 65 #[.func (.func 116) #[] #[.pointer (some ⟨w.heap.size, 0, none⟩)]] (w.alloc (.cells #[.map (some b)] 131)) fun e w' => CollPost (w.alloc (.cells #[.map (some b)] 131)) m e w' := by
  obtain ⟨D, h1, h2, h3, h4, h5⟩ := h.keys
  have hsz := h.size_le hb h1 h3 h2
  refine Calls.mono ((callsIn_wide (n := 5)).1 (AnyZI.collect_in Tryz.collectA Fence.wide 5 trivial trivial rfl (by omega) 116 #[.pointer (some ⟨w.heap.size, 0, none⟩)] trivial (enters_of Tryz.func116 (by kernel_rfl) rfl) _ _ (by unfold maxLen; omega) (by omega) _ (seqOw_gives w b D h1 _ (by omega)))) ?_
  rintro e w' ⟨v, ss, rfl, hS, hrow, _, hbl⟩
  refine ⟨v, ss, rfl, hS.nodup_iff.2 h2, fun k => ?_, by rw [hS.length_eq]; omega, Sl.of_row hrow, fresh_of_below hbl⟩
  rw [← h3 k]
  exact hS.mem_iff
end
section
open Go.RowKit
theorem owners_few {w : World} {B : Nat} {M : FM} (h : FlP w B M) {l : List Int} (hn : l.Nodup) (hk : ∀ k, k ∈ l ↔ (M.ov k).isSome = true) : l.length ≤ 100000 := by
  have h1 : (l.map Int.toNat).Nodup := by
    refine List.pairwise_map.2 (List.Pairwise.imp_of_mem ?_ hn)
    intro a b ha hb hne he
    have := h.okb a ((hk a).1 ha)
    have := h.okb b ((hk b).1 hb)
    omega
  have h2 : (l.map Int.toNat) ⊆ List.range 600 := fun y hy => by
    obtain ⟨p, hp, rfl⟩ := List.mem_map.1 hy
    have hs := (hk p).1 hp
    unfold FM.ov at hs
    cases ho : M.o p with
    | none => rw [ho] at hs; cases hs
    | some z => have := h.ok p z ho; rw [List.mem_range]; omega
  have h3 := List.Nodup.length_le_of_subset h1 h2
  simp at h3
  omega
def AutoPost (w : World) (B : Nat) (M : FM) (e : Ending) (w' : World) : Prop := ∃ (A : Option Addr) (n c : Nat) (k : Int), e = .returned (.tuple #[.slice A n c, .int .i64 k]) ∧ StepP w B M w'
theorem auto_any (w : World) (B : Nat) (hB : B ≤ w.heap.size) (M : FM) (h : FlP w B M) (ow : Int) (h1 : wf64 ow) :
    Calls Tryz.prog 37 #[.pointer (some ⟨M.f, 0, none⟩), .int .i64 ow] w fun e w' => AutoPost w B M e w' := by
  have y5 : w.cell? ⟨M.f, 5, none⟩ = some (.map (some M.hb)) := h.blk.cell 5
  have hask := h.hm.ask (t := 130) Tryz.underlying130 (z := .pointer none) (fun _ => by kernel_rfl) (k := ow) h1
  have HH := zh h
  cases hx : M.h ow with
  | none =>
    rw [hv_none hx] at hask
    dsimp only [Option.getD, Option.isSome] at hask
    clear hx h
    go_in
    go_wp2_with fail
    go_ret2
    exact ⟨_, _, _, 2, rfl, StepP.same HH.out (Frm.refl _ _)⟩
  | some x =>
    rw [hv_some hx] at hask
    dsimp only [Option.getD, Option.isSome, HoldM.ptr] at hask
    obtain ⟨hk, hxp⟩ := h.hk ow x hx
    obtain ⟨A3, c3, hv3, n3, m3, _⟩ := hxp.sl.shape
    have y3 : w.cell? ⟨x.p, 3, none⟩ = some (.slice A3 x.l.length c3) := by rw [← hv3]; exact hxp.blk.cell 3
    have HX := zh hx
    clear hx h
    by_cases hl : 0 < x.l.length
    · have d1 : decide ((0 : Int) < (x.l.length : Int)) = true := decide_eq_true (by omega)
      have d1' : decide (0 < x.l.length) = true := decide_eq_true hl
      have hl0 : (0 : Int) < (x.l.length : Int) := by omega
      clear hxp hv3 n3 m3
      go_in
      go_wp2_with fail
      go_ret2
      exact ⟨_, _, _, 7, rfl, StepP.same HH.out (Frm.refl _ _)⟩
    · have hl0 : x.l.length = 0 := by omega
      rw [hl0] at y3
      have HL0 := zh hl0
      obtain ⟨A2, c2, hv2, n2, m2, _⟩ := HH.out.g.shape
      have HSS : Hid (∀ w', Fresh w w' → w'.cell? ⟨M.f, 1, none⟩ = some (.int .i64 M.rows) ∧ w'.cell? ⟨M.f, 2, none⟩ = some (.slice A2 M.gs.length c2) ∧ w'.cell? ⟨M.f, 6, none⟩ = some (.map (some M.ob)) ∧ w'.cell? ⟨x.p, 2, none⟩ = some (.int .i64 x.mn)) := zh fun w' F => by
        have hq := HH.out.fresh F
        exact ⟨hq.blk.cell 1, by rw [← hv2]; exact hq.blk.cell 2, hq.blk.cell 6, (hq.hk ow x HX.out).2.blk.cell 2⟩
      have HCO : Hid (Calls Tryz.prog 65 #[.func (.func 116) #[] #[.pointer (some ⟨w.heap.size, 0, none⟩)]] (w.alloc (.cells #[.map (some M.ob)] 131)).drew fun e w' => CollPost (w.alloc (.cells #[.map (some M.ob)] 131)).drew M.ov e w') := zh (collOw_any w.drew M.ob M.ov HH.out.om HH.out.okb)
      have HBE : Hid (∀ w' (TA : Option Addr) (tc : Nat) (l : List Int), Fresh w w' → Rd w' w'.heap.size TA (ivs l) → l.length ≤ 100000 → Calls Tryz.prog 73 #[.agg #[.int .i64 M.rows, .slice A2 M.gs.length c2], .slice TA l.length tc, .int .i64 x.mn] w' fun e w'' => BestPost w' e w'') := zh fun w' TA tc l F hr hl =>
        pBest_any w' M.rows A2 c2 M.gs (by have := (HH.out.fresh F).g; rw [hv2] at this; exact this.rd) HH.out.gs TA tc l hr hl x.mn
      clear hxp hv3 hv2 n2 m2 n3 m3 hl hl0
      go_in
      go_wp2_with fail
      go_region_held3 (fun w' => w'.cell? ⟨M.f, 1, none⟩ = some (.int .i64 M.rows) ∧ w'.cell? ⟨M.f, 2, none⟩ = some (.slice A2 M.gs.length c2) ∧ w'.cell? ⟨M.f, 6, none⟩ = some (.map (some M.ob)) ∧ w'.cell? ⟨x.p, 2, none⟩ = some (.int .i64 x.mn))
        (first | exact HSS.out _ (Frm.refl _ _).drew | exact HSS.out _ HF7.out | exact HSS.out _ HF6.out | exact HSS.out _ ((Frm.refl _ _).alloc _) | exact HSS.out _ ((Frm.refl _ _).alloc _).drew | exact HSS.out _ ((Frm.refl _ _).drew.alloc _) | go_keep)
        (first
          | (go_at_call 74; refine (keysOw_any _ _).mono ?_; rintro e w5 ⟨rfl, rfl⟩)
          | (go_at_call 65; refine HCO.out.mono ?_; rintro e w6 ⟨v6, l6, rfl, hl6, hk6, hb6, hs6, f6⟩; have HF6 : Hid (Fresh w w6) := zh (((Frm.refl _ w).alloc _).drew.trans f6); obtain ⟨A6, c6, rfl, _, _, _⟩ := hs6.shape; have HR6 := zh hs6.rd; have HB6 : Hid (l6.length ≤ 100000) := zh (owners_few HH.out hl6 hk6); clear hl6 hk6 hb6 hs6 f6)
          | (go_at_call 73; refine (HBE.out _ _ _ _ HF6.out HR6.out HB6.out).mono ?_; rintro e w7 ⟨v7, l7, k7, rfl, hl7, hsb7, hs7, f7⟩; have HF7 : Hid (Fresh w w7) := zh (HF6.out.trans f7); obtain ⟨A7, c7, rfl, _, _, _⟩ := hs7.shape; have HS7 := zh hs7; have HSB := zh hsb7; have HL7 := zh hl7; have HW6 := zh HF6.out.size; clear hl7 hsb7 hs7 f7))
      go_wp2_with fail
      have HNO : Hid (∀ j, (Value.slice A7 l7.length c7).ownBlock = some j → ¬ (M.own j ∨ w7.heap.size ≤ j)) := zh fun j hj e => by
        have h2 := HS7.out.lt j hj
        rcases e with e | e
        · have := (HH.out.own_lt e).2; have := HW6.out; omega
        · omega
      have HSZ7 : Hid (w.heap.size ≤ w7.heap.size) := zh HF7.out.size
      clear HCO HBE HR6 HB6
      go_loopw [51] (fun v51 wr => ∃ (i : Nat) (M' : FM) (x' : HoldM), i ≤ l7.length ∧ v51 = .int .i64 (i : Int) ∧ FlP wr B M' ∧ (M'.f = M.f ∧ M'.hb = M.hb ∧ M'.ob = M.ob) ∧ M'.h ow = some x' ∧ x'.p = x.p ∧ x'.l.length = i ∧ Frm M.own w wr ∧ (∀ j, M'.own j → M.own j ∨ w7.heap.size ≤ j) ∧ Sl wr w6.heap.size 3 1 (.slice A7 l7.length c7) l7.length (ivs l7) ∧ w7.heap.size ≤ wr.heap.size) (fun v51 _ => l7.length - (RowKit.intOf v51).toNat)
      case atStart => exact ⟨0, M, x, by omega, rfl, HH.out.fresh HF7.out, ⟨rfl, rfl, rfl⟩, HX.out, rfl, HL0.out, HF7.out.frm, fun j hj => .inl hj, HS7.out, Nat.le_refl _⟩
      case round =>
        obtain ⟨i, M', x', hi, rfl, hq, heq, hx', hpx, hlx, hfr, how, hsl, hwr⟩ := hrel
        have hi0 : (0 : Int) ≤ (i : Int) := by omega
        have HQ := zh hq
        have HE := zh heq
        have HX' := zh hx'
        have HP := zh hpx
        have HLX := zh hlx
        have HFR := zh hfr
        have HOW := zh how
        have HSL := zh hsl
        have hlen := HL7.out
        clear hq heq hx' hpx hlx hfr how hsl
        by_cases hlt : i < l7.length
        · have hlti : (i : Int) < (l7.length : Int) := by omega
          obtain ⟨b, o, rfl, _, hc⟩ := HSL.out.rd.at_ (k := i) (by unfold ivs; simpa using hlt)
          unfold ivs at hc
          rw [List.getElem_map] at hc
          have hn := HSB.out _ (List.getElem_mem hlt)
          generalize l7[i] = n at hc hn
          have HT : Hid (Calls Tryz.prog 72 #[.pointer (some ⟨M.f, 0, none⟩), .pointer (some ⟨x.p, 0, none⟩), .int .i64 n] wr fun e w' => TellPost wr B M' ow x' e w') := zh (by
            have := tell_any wr B (Nat.le_trans hB HFR.out.size) M' HQ.out ow x' HX'.out n hn (by rw [HLX.out]; omega)
            rw [HE.out.1, HP.out] at this
            exact this)
          go_wp2_with fail
          refine HT.out.mono ?_
          rintro e w8 ⟨rfl, M2, x2, b1, b2, b3, b4, b5, b6, b7, b8, b9⟩
          have HFIN : Hid (FlP w8 B M2 ∧ (M2.f = M.f ∧ M2.hb = M.hb ∧ M2.ob = M.ob) ∧ M2.h ow = some x2 ∧ x2.p = x.p ∧ x2.l.length = i + 1 ∧ Frm M.own w w8 ∧ (∀ j, M2.own j → M.own j ∨ w7.heap.size ≤ j) ∧ Sl w8 w6.heap.size 3 1 (.slice (some ⟨b, o, none⟩) l7.length c7) l7.length (ivs l7) ∧ w7.heap.size ≤ w8.heap.size) := zh (by
            refine ⟨b1, ⟨b2.trans HE.out.1, b3.trans HE.out.2.1, b4.trans HE.out.2.2⟩, b5, b6.trans HP.out, by rw [b7, HLX.out], HFR.out.trans' b8 (fun j hj e => ?_), fun j hj => ?_, HSL.out.frm b8 (fun j hj e => HNO.out j hj (HOW.out j e)), Nat.le_trans hwr b8.size⟩
            · rcases HOW.out j e with h | h
              · exact h
              · have := HSZ7.out; omega
            · rcases b9 j hj with h | h
              · exact HOW.out j h
              · exact .inr (Nat.le_trans hwr h))
          clear b1 b2 b3 b4 b5 b6 b7 b8 b9
          go_wp2_with fail
          go_roundw
          case rel => exact ⟨i + 1, M2, x2, by omega, by go_num, HFIN.out⟩
          case measure => simp [RowKit.intOf]; omega
        · have hlti : ¬ (i : Int) < (l7.length : Int) := by omega
          have HLB : Hid (Calls Tryz.prog 75 #[.pointer (some ⟨M.f, 0, none⟩), .slice A7 l7.length c7] wr fun e w' => LblsPost wr e w') := zh (by
            have := labels_any wr B M' HQ.out A7 c7 l7 HSL.out.rd (by omega)
            rw [HE.out.1] at this
            exact this)
          go_wp2_with fail
          refine HLB.out.mono ?_
          rintro e w8 ⟨A8, n8, c8, rfl, f8⟩
          have HFIN : Hid (StepP w B M w8) := zh ⟨M', HQ.out.fresh f8, HE.out.1, HE.out.2.1, HE.out.2.2, HFR.out.trans f8.frm, fun j hj => (HOW.out j hj).elim .inl (fun h => .inr (Nat.le_trans HSZ7.out h))⟩
          clear f8
          go_wp2_with fail
          go_ret2
          exact ⟨_, _, _, _, rfl, HFIN.out⟩
theorem alloc_get (w : World) (o : Obj) (k : Nat) : (w.alloc o).heap[k]? = if k = w.heap.size then some o else w.heap[k]? := by
  rcases Nat.lt_trichotomy k w.heap.size with h | h | h
  · rw [if_neg (by omega)]; exact Below.heap_alloc w o k h
  · rw [if_pos h, h]; exact heap_alloc_new w o
  · rw [if_neg (by omega), Array.getElem?_eq_none (by simp; omega), Array.getElem?_eq_none (by omega)]
theorem alloc_size (w : World) (o : Obj) : (w.alloc o).heap.size = w.heap.size + 1 := by simp
theorem drew_heap (w : World) : w.drew.heap = w.heap := rfl
theorem MapV.of_block {w : World} {b : Nat} (h : w.heap[b]? = some (.map #[] 0)) : MapV w b (fun _ => none) := by
  obtain ⟨D, h1, h2⟩ := MapV.made ({ w with heap := w.heap.extract 0 b } : World)
  have hb : b < w.heap.size := by
    rcases Nat.lt_or_ge b w.heap.size with h' | h'
    · exact h'
    · rw [Array.getElem?_eq_none h'] at h; cases h
  have e : ({ w with heap := w.heap.extract 0 b } : World).heap.size = b := by show (w.heap.extract 0 b).size = b; rw [Array.size_extract]; omega
  have e2 := heap_alloc_new ({ w with heap := w.heap.extract 0 b } : World) (.map #[] 0)
  rw [e] at h1 e2
  exact ⟨D, OM.same h1 (h.trans e2.symm), h2⟩
theorem zarr_of {w : World} {b n B : Nat} (h : Blk w b 3 (zarr n)) (hB : B ≤ b) (hn : n ≤ 1000) : Sl w B 3 1 (.slice (some ⟨b, 0, none⟩) n n) n (ivs (List.replicate n 0)) := by
  have hl : (ivs (List.replicate n 0)).length = n := by unfold ivs; simp
  exact ⟨by omega, .inr ⟨b, 0, n, zarr n, rfl, hB, h, Nat.le_refl _, by unfold maxLen; omega, by unfold zarr; simp [hl], fun j u hu => by unfold zarr; rw [Nat.zero_add, List.getElem?_toArray]; exact hu⟩⟩
def NewF (w : World) (B : Nat) (gv lv : Value) (num rows : Int) (e : Ending) (w' : World) : Prop :=
  ∃ M : FM, e = .returned (.pointer (some ⟨M.f, 0, none⟩)) ∧ FlP w' B M ∧ (∀ k, M.own k → w.heap.size ≤ k ∨ gv.ownBlock = some k ∨ lv.ownBlock = some k) ∧ Fresh w w' ∧ M.num = num
theorem empty_fin {w w' : World} {B b1 b2 b3 b4 n : Nat} {num rows : Int} {gv lv : Value} {gs ls : List Int} (F : Fresh w w') (hB : B ≤ w.heap.size) (wn : wf64 num) (wr : wf64 rows)
    (hg : Sl w B 3 1 gv gs.length (ivs gs)) (hgs : small gs) (hl : Sl w B 3 1 lv ls.length (ivs ls)) (h8 : ls.length ≤ 8) (hw : ∀ z ∈ ls, wf64 z) (en : n = ls.length)
    (h1 : w'.heap[b1]? = some (.cells (zarr n) 3 (0, 0))) (h2 : w'.heap[b2]? = some (.map #[] 0)) (h3 : w'.heap[b3]? = some (.map #[] 0))
    (h4 : w'.heap[b4]? = some (.cells #[.int .i64 num, .int .i64 rows, gv, lv, .slice (some ⟨b1, 0, none⟩) n n, .map (some b2), .map (some b3)] 133 (0, 0)))
    (g1 : w.heap.size ≤ b1) (g2 : w.heap.size ≤ b2) (g3 : w.heap.size ≤ b3) (g4 : w.heap.size ≤ b4) (ne : b2 ≠ b3) : NewF w B gv lv num rows (.returned (.pointer (some ⟨b4, 0, none⟩))) w' := by
  subst en
  refine ⟨{ f := b4, hb := b2, ob := b3, num := num, rows := rows, gv := gv, lv := lv, sv := .slice (some ⟨b1, 0, none⟩) ls.length ls.length, gs := gs, ls := ls, ss := List.replicate ls.length 0, h := fun _ => none, o := fun _ => none }, rfl, ?_, ?_, F, rfl⟩
  · refine ⟨h4, Nat.le_trans hB g4, Nat.le_trans hB g2, Nat.le_trans hB g3, wn, wr, hg.fresh F, hgs, hl.fresh F, h8, hw, ?_, by simpa using h8, MapV.of_block h2, MapV.of_block h3, (fun k x hx => by cases hx), (fun k x hx => by cases hx), ne, (fun k x k' x' hx => by cases hx), (fun k x hx => by cases hx)⟩
    have := zarr_of (B := B) h1 (Nat.le_trans hB g1) (by omega)
    simpa using this
  · rintro k (rfl | rfl | rfl | hk | hk | hk | ⟨j, x, hx, _⟩)
    · exact .inl g4
    · exact .inl g2
    · exact .inl g3
    · exact .inr (.inl hk)
    · exact .inr (.inr hk)
    · injection hk with hk
      subst hk
      exact .inl g1
    · cases hx
theorem empty_any (w : World) (B : Nat) (hB : B ≤ w.heap.size) (num rows : Int) (wn : wf64 num) (wr : wf64 rows) (A2 : Option Addr) (c2 : Nat) (gs : List Int) (hg : Sl w B 3 1 (.slice A2 gs.length c2) gs.length (ivs gs)) (hgs : small gs)
    (A3 : Option Addr) (c3 : Nat) (ls : List Int) (hl : Sl w B 3 1 (.slice A3 ls.length c3) ls.length (ivs ls)) (h8 : ls.length ≤ 8) (hw : ∀ z ∈ ls, wf64 z) :
    Calls Tryz.prog 54 #[.int .i64 num, .agg #[.int .i64 rows, .slice A2 gs.length c2], .slice A3 ls.length c3] w fun e w' => NewF w B (.slice A2 gs.length c2) (.slice A3 ls.length c3) num rows e w' := by
  have hmm := @run_makeMap Tryz.prog
  have hmk := fun w => make_ints ls.length (by omega) w
  have HG := zh hg
  have HL := zh hl
  clear hg hl
  go_in
  go_wp2_with fail
  go_region
  go_goals
  all_goals (go_wp2_with fail; go_ret)
  all_goals first
    | (refine empty_fin (b1 := w.heap.size + 1) (b2 := w.heap.size + 1 + 1) (b3 := w.heap.size + 1 + 1 + 1) (.drew (.alloc (.alloc (.alloc (.alloc (.alloc (Frm.refl _ _) _) _) _) _) _)) hB wn wr HG.out hgs HL.out h8 hw rfl ?_ ?_ ?_ ?_ (by omega) (by omega) (by omega) (by omega) (by omega)
       all_goals (simp only [drew_heap, alloc_get, alloc_size]; (repeat first | rw [if_pos trivial] | rw [if_neg (by omega)] | rw [if_pos (by omega)]); (try rfl); done))
    | (refine empty_fin (b1 := w.heap.size + 1) (b2 := w.heap.size + 1 + 1 + 1) (b3 := w.heap.size + 1 + 1) (.drew (.alloc (.alloc (.alloc (.alloc (.alloc (Frm.refl _ _) _) _) _) _) _)) hB wn wr HG.out hgs HL.out h8 hw rfl ?_ ?_ ?_ ?_ (by omega) (by omega) (by omega) (by omega) (by omega)
       all_goals (simp only [drew_heap, alloc_get, alloc_size]; (repeat first | rw [if_pos trivial] | rw [if_neg (by omega)] | rw [if_pos (by omega)]); (try rfl); done))
    | (refine empty_fin (b1 := w.heap.size + 1 + 1) (b2 := w.heap.size + 1) (b3 := w.heap.size + 1 + 1 + 1) (.drew (.alloc (.alloc (.alloc (.alloc (.alloc (Frm.refl _ _) _) _) _) _) _)) hB wn wr HG.out hgs HL.out h8 hw rfl ?_ ?_ ?_ ?_ (by omega) (by omega) (by omega) (by omega) (by omega)
       all_goals (simp only [drew_heap, alloc_get, alloc_size]; (repeat first | rw [if_pos trivial] | rw [if_neg (by omega)] | rw [if_pos (by omega)]); (try rfl); done))
    | (refine empty_fin (b1 := w.heap.size + 1 + 1) (b2 := w.heap.size + 1 + 1 + 1) (b3 := w.heap.size + 1) (.drew (.alloc (.alloc (.alloc (.alloc (.alloc (Frm.refl _ _) _) _) _) _) _)) hB wn wr HG.out hgs HL.out h8 hw rfl ?_ ?_ ?_ ?_ (by omega) (by omega) (by omega) (by omega) (by omega)
       all_goals (simp only [drew_heap, alloc_get, alloc_size]; (repeat first | rw [if_pos trivial] | rw [if_neg (by omega)] | rw [if_pos (by omega)]); (try rfl); done))
    | (refine empty_fin (b1 := w.heap.size + 1 + 1 + 1) (b2 := w.heap.size + 1) (b3 := w.heap.size + 1 + 1) (.drew (.alloc (.alloc (.alloc (.alloc (.alloc (Frm.refl _ _) _) _) _) _) _)) hB wn wr HG.out hgs HL.out h8 hw rfl ?_ ?_ ?_ ?_ (by omega) (by omega) (by omega) (by omega) (by omega)
       all_goals (simp only [drew_heap, alloc_get, alloc_size]; (repeat first | rw [if_pos trivial] | rw [if_neg (by omega)] | rw [if_pos (by omega)]); (try rfl); done))
    | (refine empty_fin (b1 := w.heap.size + 1 + 1 + 1) (b2 := w.heap.size + 1 + 1) (b3 := w.heap.size + 1) (.drew (.alloc (.alloc (.alloc (.alloc (.alloc (Frm.refl _ _) _) _) _) _) _)) hB wn wr HG.out hgs HL.out h8 hw rfl ?_ ?_ ?_ ?_ (by omega) (by omega) (by omega) (by omega) (by omega)
       all_goals (simp only [drew_heap, alloc_get, alloc_size]; (repeat first | rw [if_pos trivial] | rw [if_neg (by omega)] | rw [if_pos (by omega)]); (try rfl); done))
end
end Go.Proofs.YtbeaoddjomdlcaaGreatDoor

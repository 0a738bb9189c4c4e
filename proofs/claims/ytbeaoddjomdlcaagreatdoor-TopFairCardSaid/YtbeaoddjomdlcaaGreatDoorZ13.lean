/- Proved here, for the statement TopFairCardSaid: laws that its walk leans on. It holds with no condition. (Put together and shortened by a program out of many texts: Level0, Queue, Queue2, Waits, Queue3, Queue4, To6.) -/
import Derived.Test.YtbeaoddjomdlcaaGreatDoorZ12
import Derived.Test.YtbeaoddjomdlcaaGreatDoorZ10
set_option linter.unusedVariables false
set_option linter.unusedSimpArgs false
set_option maxRecDepth 100000
set_option maxHeartbeats 64000000
namespace Go.Proofs.YtbeaoddjomdlcaaGreatDoor
section
open Go.RowKit
theorem ret_i64 {a b : Int} (h : a = b) : Ending.returned (.int .i64 a) = .returned (.int .i64 b) := by rw [h]
theorem f64_format : FloatKind.f64.format = Ieee.double := rfl
theorem isnan_eq (u : Nat) : (FloatKind.f64.format.order u u != some Ordering.eq) = FareM.nan u := by
  rw [f64_format]
  by_cases h : FareM.nan u = true
  · rw [FareM.order_nan_left u h, h]; rfl
  · have h : FareM.nan u = false := by simpa using h
    rw [FareM.order_eq h h, FareM.cmp_eq rfl, h]; rfl
theorem lt_eq {u v : Nat} (hu : FareM.nan u = false) (hv : FareM.nan v = false) : (FloatKind.f64.format.order u v == some Ordering.lt) = decide (FareM.worth u < FareM.worth v) := by
  rw [f64_format, FareM.order_eq hu hv]
  rcases Int.lt_trichotomy (FareM.worth u) (FareM.worth v) with h | h | h
  · rw [FareM.cmp_lt h]; simp [h]
  · rw [FareM.cmp_eq h, h]; simp
  · rw [FareM.cmp_gt h]; simp; omega
theorem gt_eq {u v : Nat} (hu : FareM.nan u = false) (hv : FareM.nan v = false) : (FloatKind.f64.format.order u v == some Ordering.gt) = decide (FareM.worth v < FareM.worth u) := by
  rw [f64_format, FareM.order_eq hu hv]
  rcases Int.lt_trichotomy (FareM.worth u) (FareM.worth v) with h | h | h
  · rw [FareM.cmp_lt h]; simp; omega
  · rw [FareM.cmp_eq h, h]; simp
  · rw [FareM.cmp_gt h]; simp [h]
theorem eq_eq {u v : Nat} (hu : FareM.nan u = false) (hv : FareM.nan v = false) : (FloatKind.f64.format.order u v == some Ordering.eq) = decide (FareM.worth u = FareM.worth v) := by
  rw [f64_format, FareM.order_eq hu hv]
  rcases Int.lt_trichotomy (FareM.worth u) (FareM.worth v) with h | h | h
  · rw [FareM.cmp_lt h]; simp; omega
  · rw [FareM.cmp_eq h, h]; simp
  · rw [FareM.cmp_gt h]; simp; omega
theorem any_nan_left {u : Nat} (v : Nat) (o : Ordering) (hu : FareM.nan u = true) : (FloatKind.f64.format.order u v == some o) = false := by
  rw [f64_format, FareM.order_nan_left v hu]; rfl
theorem any_nan_right (u : Nat) {v : Nat} (o : Ordering) (hv : FareM.nan v = true) : (FloatKind.f64.format.order u v == some o) = false := by
  rw [f64_format, FareM.order_nan_right u hv]; rfl
theorem cmpF_any (u v : Nat) (w : World) : Calls Tryz.prog 136 #[.float .f64 u, .float .f64 v] w fun e w' => e = .returned (.int .i64 (FareM.rank u v)) ∧ w' = w := by
  have n1 := isnan_eq u
  have n2 := isnan_eq v
  rcases Bool.eq_false_or_eq_true (FareM.nan u) with hu | hu <;> rcases Bool.eq_false_or_eq_true (FareM.nan v) with hv | hv
  · rw [hu] at n1
    rw [hv] at n2
    have E := zh (show FareM.rank u v = 0 by simp [FareM.rank, hu, hv])
    clear hu hv
    go_in
    go_wp2
    go_ret
    exact ⟨ret_i64 E.out.symm, rfl⟩
  · rw [hu] at n1
    rw [hv] at n2
    have E := zh (show FareM.rank u v = -1 by simp [FareM.rank, hu, hv])
    clear hu hv
    go_in
    go_wp2
    go_ret
    exact ⟨ret_i64 E.out.symm, rfl⟩
  · rw [hu] at n1
    rw [hv] at n2
    have E := zh (show FareM.rank u v = 1 by simp [FareM.rank, hu, hv])
    clear hu hv
    go_in
    go_wp2
    go_ret
    exact ⟨ret_i64 E.out.symm, rfl⟩
  · have l := lt_eq hu hv
    have g := gt_eq hu hv
    rw [hu] at n1
    rw [hv] at n2
    have E := zh (show FareM.rank u v = FareM.sgnI (FareM.worth u) (FareM.worth v) by simp [FareM.rank, hu, hv])
    clear hu hv
    rcases Int.lt_trichotomy (FareM.worth u) (FareM.worth v) with h | h | h
    · have E2 := zh (show FareM.rank u v = -1 by rw [E.out]; unfold FareM.sgnI; rw [if_pos h])
      have l1 : (FloatKind.f64.format.order u v == some Ordering.lt) = true := by rw [l]; simpa using h
      clear h l g
      go_in
      go_wp2
      go_ret
      exact ⟨ret_i64 E2.out.symm, rfl⟩
    · have E2 := zh (show FareM.rank u v = 0 by rw [E.out]; unfold FareM.sgnI; rw [if_neg (by omega), if_neg (by omega)])
      have l1 : (FloatKind.f64.format.order u v == some Ordering.lt) = false := by rw [l]; simp; omega
      have g1 : (FloatKind.f64.format.order u v == some Ordering.gt) = false := by rw [g]; simp; omega
      clear h l g
      go_in
      go_wp2
      go_ret
      exact ⟨ret_i64 E2.out.symm, rfl⟩
    · have E2 := zh (show FareM.rank u v = 1 by rw [E.out]; unfold FareM.sgnI; rw [if_neg (by omega), if_pos h])
      have l1 : (FloatKind.f64.format.order u v == some Ordering.lt) = false := by rw [l]; simp; omega
      have g1 : (FloatKind.f64.format.order u v == some Ordering.gt) = true := by rw [g]; simpa using h
      clear h l g
      go_in
      go_wp2
      go_ret
      exact ⟨ret_i64 E2.out.symm, rfl⟩
theorem rank_any (u v : Nat) (w : World) :
    Calls Tryz.prog 104 #[.float .f64 u, .float .f64 v] w fun e w' => e = .returned (.int .i64 (FareM.rank u v)) ∧ w' = w := by
  go_in
  go_wp2_with fail
  refine (cmpF_any _ _ _).mono ?_
  rintro e w' ⟨rfl, rfl⟩
  go_wp2_with fail
  go_ret
  exact ⟨rfl, rfl⟩
theorem refRank_any (u v : Nat) (w : World) : Calls Tryz.prog 49 #[.float .f64 u, .float .f64 v] w fun e w' => e = .returned (.int .i64 (FareM.rank u v)) ∧ w' = w := by
  have n1 := isnan_eq u
  have n2 := isnan_eq v
  rcases Bool.eq_false_or_eq_true (FareM.nan u) with hu | hu <;> rcases Bool.eq_false_or_eq_true (FareM.nan v) with hv | hv
  · rw [hu] at n1
    rw [hv] at n2
    have E := zh (show FareM.rank u v = 0 by simp [FareM.rank, hu, hv])
    clear hu hv
    go_in
    go_wp2
    go_ret
    exact ⟨ret_i64 E.out.symm, rfl⟩
  · have l := any_nan_left v .eq hu
    rw [hu] at n1
    rw [hv] at n2
    have E := zh (show FareM.rank u v = -1 by simp [FareM.rank, hu, hv])
    clear hu hv
    go_in
    go_wp2
    go_ret
    exact ⟨ret_i64 E.out.symm, rfl⟩
  · have l := any_nan_right u .eq hv
    have l2 := any_nan_right u .lt hv
    rw [hu] at n1
    rw [hv] at n2
    have E := zh (show FareM.rank u v = 1 by simp [FareM.rank, hu, hv])
    clear hu hv
    go_in
    go_wp2
    go_ret
    exact ⟨ret_i64 E.out.symm, rfl⟩
  · have l := lt_eq hu hv
    have g := eq_eq hu hv
    rw [hu] at n1
    rw [hv] at n2
    have E := zh (show FareM.rank u v = FareM.sgnI (FareM.worth u) (FareM.worth v) by simp [FareM.rank, hu, hv])
    clear hu hv
    rcases Int.lt_trichotomy (FareM.worth u) (FareM.worth v) with h | h | h
    · have E2 := zh (show FareM.rank u v = -1 by rw [E.out]; unfold FareM.sgnI; rw [if_pos h])
      have l1 : (FloatKind.f64.format.order u v == some Ordering.lt) = true := by rw [l]; simpa using h
      have g1 : (FloatKind.f64.format.order u v == some Ordering.eq) = false := by rw [g]; simp; omega
      clear h l g
      go_in
      go_wp2
      go_ret
      exact ⟨ret_i64 E2.out.symm, rfl⟩
    · have E2 := zh (show FareM.rank u v = 0 by rw [E.out]; unfold FareM.sgnI; rw [if_neg (by omega), if_neg (by omega)])
      have l1 : (FloatKind.f64.format.order u v == some Ordering.lt) = false := by rw [l]; simp; omega
      have g1 : (FloatKind.f64.format.order u v == some Ordering.eq) = true := by rw [g]; simpa using h
      clear h l g
      go_in
      go_wp2
      go_ret
      exact ⟨ret_i64 E2.out.symm, rfl⟩
    · have E2 := zh (show FareM.rank u v = 1 by rw [E.out]; unfold FareM.sgnI; rw [if_neg (by omega), if_pos h])
      have l1 : (FloatKind.f64.format.order u v == some Ordering.lt) = false := by rw [l]; simp; omega
      have g1 : (FloatKind.f64.format.order u v == some Ordering.eq) = false := by rw [g]; simp; omega
      clear h l g
      go_in
      go_wp2
      go_ret
      exact ⟨ret_i64 E2.out.symm, rfl⟩
end
section
open Go.RowKit QueueM
theorem ret_bool {a b : Bool} (h : a = b) : Ending.returned (.bool a) = .returned (.bool b) := by rw [h]
theorem within_any (n l h : Int) (w : World) : Calls Tryz.prog 100 #[.int .i64 n, .int .i64 l, .int .i64 h] w fun e w' => e = .returned (.bool (decide (l ≤ n ∧ n ≤ h))) ∧ w' = w := by
  by_cases h1 : l ≤ n
  · by_cases h2 : n ≤ h
    · go_in
      go_wp2
      go_ret
      exact ⟨ret_bool (by simp [h1, h2]), rfl⟩
    · go_in
      go_wp2
      go_ret
      exact ⟨ret_bool (by simp [h1]; omega), rfl⟩
  · go_in
    go_wp2
    go_ret
    exact ⟨ret_bool (by simp; omega), rfl⟩
theorem right_any (i c m t : Int) (s : Nat) (w : World) : Calls Tryz.prog 57 #[.agg #[.int .i64 i, .int .i64 c, .int .i64 m, .int .i64 t, .float .f64 s]] w fun e w' => e = .returned (.bool (right ⟨i, c, m, t, s⟩)) ∧ Fresh w w' := by
  have HR := zh (show right ⟨i, c, m, t, s⟩ = (decide (1 ≤ i ∧ i ≤ 28629151) && decide (0 ≤ c ∧ c ≤ 7) && decide (1 ≤ m ∧ m ≤ 600) && decide (0 ≤ t ∧ t ≤ 1099511627776)) by
    rw [Bool.eq_iff_iff, right_iff]; simp; omega)
  have F := fun o => (Frm.refl (fun _ => False) w).alloc o
  have HF := zh F
  clear F
  rcases Bool.eq_false_or_eq_true (decide (1 ≤ i ∧ i ≤ 28629151)) with b1 | b1
  · rcases Bool.eq_false_or_eq_true (decide (0 ≤ c ∧ c ≤ 7)) with b2 | b2
    · rcases Bool.eq_false_or_eq_true (decide (1 ≤ m ∧ m ≤ 600)) with b3 | b3
      · go_in
        go_wp2_with fail
        refine (within_any _ _ _ _).mono ?_
        rw [b1]
        rintro e w' ⟨rfl, rfl⟩
        go_wp2_with fail
        refine (within_any _ _ _ _).mono ?_
        rw [b2]
        rintro e w' ⟨rfl, rfl⟩
        go_wp2_with fail
        refine (within_any _ _ _ _).mono ?_
        rw [b3]
        rintro e w' ⟨rfl, rfl⟩
        go_wp2_with fail
        refine (within_any _ _ _ _).mono ?_
        rintro e w' ⟨rfl, rfl⟩
        go_wp2_with fail
        go_ret
        exact ⟨ret_bool (by rw [HR.out, b1, b2, b3]; simp), HF.out _⟩
      · go_in
        go_wp2_with fail
        refine (within_any _ _ _ _).mono ?_
        rw [b1]
        rintro e w' ⟨rfl, rfl⟩
        go_wp2_with fail
        refine (within_any _ _ _ _).mono ?_
        rw [b2]
        rintro e w' ⟨rfl, rfl⟩
        go_wp2_with fail
        refine (within_any _ _ _ _).mono ?_
        rw [b3]
        rintro e w' ⟨rfl, rfl⟩
        go_wp2_with fail
        go_ret
        exact ⟨by rw [HR.out, b1, b2, b3]; rfl, HF.out _⟩
    · go_in
      go_wp2_with fail
      refine (within_any _ _ _ _).mono ?_
      rw [b1]
      rintro e w' ⟨rfl, rfl⟩
      go_wp2_with fail
      refine (within_any _ _ _ _).mono ?_
      rw [b2]
      rintro e w' ⟨rfl, rfl⟩
      go_wp2_with fail
      go_ret
      exact ⟨by rw [HR.out, b1, b2]; rfl, HF.out _⟩
  · go_in
    go_wp2_with fail
    refine (within_any _ _ _ _).mono ?_
    rw [b1]
    rintro e w' ⟨rfl, rfl⟩
    go_wp2_with fail
    go_ret
    exact ⟨by rw [HR.out, b1]; rfl, HF.out _⟩
end
section
open Go.RowKit QueueM
attribute [local go_sem ↓] Go.wp_at_zero Go.wp_at_succ
theorem cmpI_any (a b : Int) (w : World) : Calls Tryz.prog 105 #[.int .i64 a, .int .i64 b] w fun e w' => e = .returned (.int .i64 (FareM.sgnI a b)) ∧ w' = w := by
  unfold FareM.sgnI
  rcases Int.lt_trichotomy a b with h | h | h
  · rw [if_pos h]
    go_in
    go_wp2
    go_ret
    exact ⟨rfl, rfl⟩
  · rw [if_neg (by omega), if_neg (by omega)]
    subst h
    go_in
    go_wp2
    go_ret
    exact ⟨rfl, rfl⟩
  · rw [if_neg (by omega), if_pos h]
    go_in
    go_wp2
    go_ret
    exact ⟨rfl, rfl⟩
def or3 (a b c : Int) : Int := if a ≠ 0 then a else if b ≠ 0 then b else c
theorem or_any (w : World) (b : Nat) (x y z : Int) (hb : Blk w b 3 #[.int .i64 x, .int .i64 y, .int .i64 z]) :
    Calls Tryz.prog 103 #[.slice (some ⟨b, 0, none⟩) 3 3] w fun e w' => e = .returned (.int .i64 (or3 x y z)) ∧ w' = w := by
  have c0 : w.cell? ⟨b, 0, none⟩ = some (.int .i64 x) := hb.cell 0
  have c1 : w.cell? ⟨b, 1, none⟩ = some (.int .i64 y) := hb.cell 1
  have c2 : w.cell? ⟨b, 2, none⟩ = some (.int .i64 z) := hb.cell 2
  clear hb
  rcases Bool.eq_false_or_eq_true (x != 0) with bx | bx
  · have HO := zh (show or3 x y z = x by unfold or3; rw [if_pos (by simpa using bx)])
    go_in
    go_wp2_with fail
    go_loop [8] (fun v8 => v8 = .int .i64 0) (fun v8 => 3 - (RowKit.intOf v8).toNat)
    case atStart => rfl
    case round =>
      subst hrel
      go_wp2_with fail
      go_ret
      exact ⟨ret_i64 HO.out.symm, rfl⟩
  · rcases Bool.eq_false_or_eq_true (y != 0) with b_y | b_y
    · have HO := zh (show or3 x y z = y by unfold or3; rw [if_neg (by simpa using bx), if_pos (by simpa using b_y)])
      go_in
      go_wp2_with fail
      go_loop [8] (fun v8 => v8 = .int .i64 0 ∨ v8 = .int .i64 1) (fun v8 => 3 - (RowKit.intOf v8).toNat)
      case atStart => exact .inl rfl
      case round =>
        rcases hrel with rfl | rfl
        · go_wp2_with fail
          go_round
          case rel => exact .inr rfl
          case measure => simp [RowKit.intOf]
        · go_wp2_with fail
          go_ret
          exact ⟨ret_i64 HO.out.symm, rfl⟩
    · have HO := zh (show or3 x y z = z by unfold or3; rw [if_neg (by simpa using bx), if_neg (by simpa using b_y)])
      rcases Bool.eq_false_or_eq_true (z != 0) with bz | bz
      · go_in
        go_wp2_with fail
        go_loop [8] (fun v8 => v8 = .int .i64 0 ∨ v8 = .int .i64 1 ∨ v8 = .int .i64 2) (fun v8 => 3 - (RowKit.intOf v8).toNat)
        case atStart => exact .inl rfl
        case round =>
          rcases hrel with rfl | rfl | rfl
          · go_wp2_with fail
            go_round
            case rel => exact .inr (.inl rfl)
            case measure => simp [RowKit.intOf]
          · go_wp2_with fail
            go_round
            case rel => exact .inr (.inr rfl)
            case measure => simp [RowKit.intOf]
          · go_wp2_with fail
            go_ret
            exact ⟨ret_i64 HO.out.symm, rfl⟩
      · have HZ := zh (show z = 0 by simpa using bz)
        go_in
        go_wp2_with fail
        go_loop [8] (fun v8 => v8 = .int .i64 0 ∨ v8 = .int .i64 1 ∨ v8 = .int .i64 2 ∨ v8 = .int .i64 3) (fun v8 => 3 - (RowKit.intOf v8).toNat)
        case atStart => exact .inl rfl
        case round =>
          rcases hrel with rfl | rfl | rfl | rfl
          · go_wp2_with fail
            go_round
            case rel => exact .inr (.inl rfl)
            case measure => simp [RowKit.intOf]
          · go_wp2_with fail
            go_round
            case rel => exact .inr (.inr (.inl rfl))
            case measure => simp [RowKit.intOf]
          · go_wp2_with fail
            go_round
            case rel => exact .inr (.inr (.inr rfl))
            case measure => simp [RowKit.intOf]
          · go_wp2_with fail
            go_ret
            exact ⟨ret_i64 (by rw [HO.out, HZ.out]), rfl⟩
theorem ord_or (a b : Wt) : or3 (FareM.rank b.score a.score) (FareM.sgnI a.time b.time) (FareM.sgnI a.id b.id) = ord a b := rfl
theorem order_any (i c m t : Int) (s : Nat) (i' c' m' t' : Int) (s' : Nat) (w : World) :
    Calls Tryz.prog 60 #[.agg #[.int .i64 i, .int .i64 c, .int .i64 m, .int .i64 t, .float .f64 s], .agg #[.int .i64 i', .int .i64 c', .int .i64 m', .int .i64 t', .float .f64 s']] w
      fun e w' => e = .returned (.int .i64 (ord ⟨i, c, m, t, s⟩ ⟨i', c', m', t', s'⟩)) ∧ Fresh w w' := by
  rw [← ord_or]
  dsimp only
  generalize hr : FareM.rank s' s = r
  have HR := zh (fun w => by rw [← hr]; exact rank_any s' s w : ∀ w, Calls Tryz.prog 104 #[.float .f64 s', .float .f64 s] w fun e w' => e = .returned (.int .i64 r) ∧ w' = w)
  clear hr
  go_in
  go_wp2_with fail
  obtain ⟨w1, hw1⟩ : ∃ w1, (w.alloc (.cells #[.int .i64 i, .int .i64 c, .int .i64 m, .int .i64 t, .float .f64 s] 141)).alloc (.cells #[.int .i64 i', .int .i64 c', .int .i64 m', .int .i64 t', .float .f64 s'] 141) = w1 := ⟨_, rfl⟩
  rw [hw1]
  have F1 : Fresh w w1 := by rw [← hw1]; exact ((Frm.refl _ w).alloc _).alloc _
  have CELL : Hid (∀ w', Fresh w1 w' → w'.cell? ⟨w.heap.size, 0, none⟩ = some (.int .i64 i) ∧ w'.cell? ⟨w.heap.size, 3, none⟩ = some (.int .i64 t) ∧ w'.cell? ⟨w.heap.size, 4, none⟩ = some (.float .f64 s) ∧
      w'.cell? ⟨w.heap.size + 1, 0, none⟩ = some (.int .i64 i') ∧ w'.cell? ⟨w.heap.size + 1, 3, none⟩ = some (.int .i64 t') ∧ w'.cell? ⟨w.heap.size + 1, 4, none⟩ = some (.float .f64 s')) := zh fun w' F => by
    have B1 : Blk w1 w.heap.size 141 #[.int .i64 i, .int .i64 c, .int .i64 m, .int .i64 t, .float .f64 s] := by rw [← hw1]; exact (Blk.new w _ _).alloc _
    have B2 : Blk w1 (w.heap.size + 1) 141 #[.int .i64 i', .int .i64 c', .int .i64 m', .int .i64 t', .float .f64 s'] := by
      rw [← hw1]
      have := Blk.new (w.alloc (.cells #[.int .i64 i, .int .i64 c, .int .i64 m, .int .i64 t, .float .f64 s] 141)) 141 #[.int .i64 i', .int .i64 c', .int .i64 m', .int .i64 t', .float .f64 s']
      rwa [World.size_alloc] at this
    have b1 := B1.frm F (fun f => f)
    have b2 := B2.frm F (fun f => f)
    exact ⟨b1.cell 0, b1.cell 3, b1.cell 4, b2.cell 0, b2.cell 3, b2.cell 4⟩
  have HF1 := zh F1
  clear hw1 F1
  go_region_held3 (fun w' => w'.cell? ⟨w.heap.size, 0, none⟩ = some (.int .i64 i) ∧ w'.cell? ⟨w.heap.size, 3, none⟩ = some (.int .i64 t) ∧ w'.cell? ⟨w.heap.size, 4, none⟩ = some (.float .f64 s) ∧
      w'.cell? ⟨w.heap.size + 1, 0, none⟩ = some (.int .i64 i') ∧ w'.cell? ⟨w.heap.size + 1, 3, none⟩ = some (.int .i64 t') ∧ w'.cell? ⟨w.heap.size + 1, 4, none⟩ = some (.float .f64 s'))
    (first | exact CELL.out _ (Frm.refl _ _) | exact CELL.out _ ((Frm.refl _ _).drew) | exact CELL.out _ (((Frm.refl _ _).drew).alloc _))
    (first
      | (go_at_call 104; refine (HR.out _).mono ?_; rintro e w' ⟨rfl, rfl⟩)
      | (go_at_call 105; refine (cmpI_any _ _ _).mono ?_; rintro e w' ⟨rfl, rfl⟩)
      | (go_at_call 103; refine (or_any _ _ _ _ _ (Blk.new w1.drew _ _)).mono ?_; rintro e w' ⟨rfl, rfl⟩))
  go_wp2_with fail
  go_ret
  exact ⟨rfl, (HF1.out.drew).alloc _⟩
end
section
open Go.RowKit QueueM
def wcells (x : Wt) : List Value := [.int .i64 x.id, .int .i64 x.cls, .int .i64 x.many, .int .i64 x.time, .float .f64 x.score]
def wagg (x : Wt) : Value := .agg #[.int .i64 x.id, .int .i64 x.cls, .int .i64 x.many, .int .i64 x.time, .float .f64 x.score]
theorem wcells_len (l : List Wt) : (l.flatMap wcells).length = l.length * 5 := flatMap_len l (fun _ _ => rfl)
theorem wcells_one (l : List Wt) : ∀ u ∈ l.flatMap wcells, u.oneCell' = true := by
  intro u hu
  obtain ⟨x, _, hx⟩ := List.mem_flatMap.1 hu
  simp only [wcells, List.mem_cons, List.not_mem_nil, or_false] at hx
  rcases hx with rfl | rfl | rfl | rfl | rfl <;> rfl
theorem wcells_get : ∀ (l : List Wt) (i : Nat) (h : i < l.length) (j : Nat), j < 5 → (l.flatMap wcells)[i * 5 + j]? = (wcells l[i])[j]?
  | x :: l, 0, _, j, hj => by
    rw [List.flatMap_cons, Nat.zero_mul, Nat.zero_add, List.getElem?_append_left (by exact hj)]
    rfl
  | x :: l, i + 1, h, j, hj => by
    rw [List.flatMap_cons, List.getElem?_append_right (by show 5 ≤ _; omega), show (wcells x).length = 5 from rfl, show (i + 1) * 5 + j - 5 = i * 5 + j by omega]
    exact wcells_get l i (by simpa using h) j hj
theorem wcells_take : ∀ (l : List Wt) (k : Nat), (l.take k).flatMap wcells = (l.flatMap wcells).take (k * 5)
  | [], k => by simp
  | x :: l, 0 => by simp
  | x :: l, k + 1 => by
    have e : (k + 1) * 5 = (wcells x).length + k * 5 := by rw [show (wcells x).length = 5 from rfl]; omega
    rw [List.take_succ_cons, List.flatMap_cons, List.flatMap_cons, wcells_take l k, e, List.take_length_add_append]
theorem wcells_drop : ∀ (l : List Wt) (k : Nat), (l.drop k).flatMap wcells = (l.flatMap wcells).drop (k * 5)
  | [], k => by simp
  | x :: l, 0 => by simp
  | x :: l, k + 1 => by
    have e : (k + 1) * 5 = (wcells x).length + k * 5 := by rw [show (wcells x).length = 5 from rfl]; omega
    rw [List.drop_succ_cons, List.flatMap_cons, wcells_drop l k, e, List.drop_length_add_append]
theorem wcells_ins (x : Wt) (l : List Wt) : (ins x l).flatMap wcells = (l.flatMap wcells).take (cnt x l * 5) ++ wcells x ++ (l.flatMap wcells).drop (cnt x l * 5) := by
  unfold ins
  rw [List.flatMap_append, List.flatMap_cons, wcells_take, wcells_drop, List.append_assoc]
theorem wcells_del (id : Int) (l : List Wt) : (del id l).flatMap wcells = (l.flatMap wcells).take (place id l * 5) ++ (l.flatMap wcells).drop ((place id l + 1) * 5) := by
  unfold del
  rw [List.flatMap_append, wcells_take, wcells_drop]
def Five (w : World) (b o : Nat) (x : Wt) : Prop :=
  w.cell? ⟨b, o, none⟩ = some (.int .i64 x.id) ∧ w.cell? ⟨b, o + 1, none⟩ = some (.int .i64 x.cls) ∧ w.cell? ⟨b, o + 2, none⟩ = some (.int .i64 x.many) ∧ w.cell? ⟨b, o + 3, none⟩ = some (.int .i64 x.time) ∧ w.cell? ⟨b, o + 4, none⟩ = some (.float .f64 x.score)
theorem five_at {w : World} {B : Nat} {A : Option Addr} {l : List Wt} (h : Rd w B A (l.flatMap wcells)) {i : Nat} (hi : i < l.length) :
    ∃ b o, A = some ⟨b, o, none⟩ ∧ b < B ∧ Five w b (o + i * 5) l[i] := by
  have hne : l.flatMap wcells ≠ [] := fun e => by
    have := wcells_len l
    rw [e] at this
    simp at this
    omega
  obtain ⟨b, o, hA, hb, hc⟩ := h hne
  have g := fun j (hj : j < 5) => wcells_get l i hi j hj
  refine ⟨b, o, hA, hb, ?_, ?_, ?_, ?_, ?_⟩
  · exact hc _ _ (g 0 (by omega))
  · rw [Nat.add_assoc]; exact hc _ _ (g 1 (by omega))
  · rw [Nat.add_assoc]; exact hc _ _ (g 2 (by omega))
  · rw [Nat.add_assoc]; exact hc _ _ (g 3 (by omega))
  · rw [Nat.add_assoc]; exact hc _ _ (g 4 (by omega))
theorem Five.drewN {w : World} {b o : Nat} {x : Wt} (h : Five w b o x) (n : Nat) : Five (w.drewN n) b o x := h
theorem Five.fresh {w w' : World} {b o : Nat} {x : Wt} (h : Five w b o x) (F : Fresh w w') : Five w' b o x := by
  have k : ∀ j u, w.cell? ⟨b, j, none⟩ = some u → w'.cell? ⟨b, j, none⟩ = some u := fun j u hu => (F.cell (World.block_lt_of_cell? _ _ hu) (fun f => f)).trans hu
  exact ⟨k _ _ h.1, k _ _ h.2.1, k _ _ h.2.2.1, k _ _ h.2.2.2.1, k _ _ h.2.2.2.2⟩
theorem five_blk {w : World} {b : Nat} {t : TypeId} {x : Wt} (h : Blk w b t (wcells x).toArray) : Five w b 0 x := ⟨h.cell 0, h.cell 1, h.cell 2, h.cell 3, h.cell 4⟩
theorem run_store_float {P : Program} (w : World) (a : Addr) (m : Mode) (k : FloatKind) (u : Nat) : (store a (.float k u) m).run P w = stored P w a (.float k u) m := run_store P w a _ m rfl
def plc (id : Int) (l : List Wt) : Int := if has id l = true then (place id l : Int) else -1
theorem plc_at {id : Int} {l : List Wt} {i : Nat} (h : i < l.length) (no : ∀ j (hj : j < l.length), j < i → l[j].id ≠ id) (yes : l[i].id = id) : plc id l = (i : Int) := by
  have e : place id l = i := by
    unfold place
    rw [List.findIdx_eq h]
    refine ⟨by simpa using yes, fun j hj => ?_⟩
    simpa using no j (by omega) hj
  unfold plc
  rw [if_pos (place_lt.1 (by rw [e]; exact h)), e]
theorem plc_none {id : Int} {l : List Wt} (no : ∀ j (hj : j < l.length), l[j].id ≠ id) : plc id l = -1 := by
  unfold plc
  rw [if_neg]
  intro h
  obtain ⟨x, hx, e⟩ := has_iff.1 h
  obtain ⟨j, hj, rfl⟩ := List.mem_iff_getElem.1 hx
  exact no j hj e
theorem plc_yes {id : Int} {l : List Wt} (h : has id l = true) : plc id l = (place id l : Int) ∧ place id l < l.length := ⟨by unfold plc; rw [if_pos h], place_lt.2 h⟩
theorem plc_no {id : Int} {l : List Wt} (h : has id l = false) : plc id l = -1 := by unfold plc; rw [h]; rfl
theorem placed_any (x : Wt) (g : Nat) (id : Int) (w : World) (hg : Blk w g 3 #[.int .i64 id]) :
    Calls Tryz.prog 102 #[wagg x, .pointer (some ⟨g, 0, none⟩)] w fun e w' => e = .returned (.bool (decide (x.id = id))) ∧ Fresh w w' := by
  have hc : w.cell? ⟨g, 0, none⟩ = some (.int .i64 id) := hg.cell 0
  have hlt := hg.lt
  have F := (Frm.refl (fun _ => False) w).alloc (.cells #[.int .i64 x.id, .int .i64 x.cls, .int .i64 x.many, .int .i64 x.time, .float .f64 x.score] 141)
  have HF := zh F
  clear hg F
  unfold wagg
  go_in
  go_wp2_with fail
  go_ret
  exact ⟨ret_bool (by first | rfl | simp), HF.out⟩
theorem indexFunc_any (w : World) (A : Option Addr) (cap : Nat) (l : List Wt) (g : Nat) (id : Int) (hA : Rd w w.heap.size A (l.flatMap wcells)) (hg : Blk w g 3 #[.int .i64 id]) (hl : l.length ≤ 1000) :
    Calls Tryz.prog 101 #[.slice A l.length cap, .func (.func 102) #[] #[.pointer (some ⟨g, 0, none⟩)]] w
      fun e w' => e = .returned (.int .i64 (plc id l)) ∧ Fresh w w' := by
  have HA := zh hA
  have HG := zh hg
  clear hA hg
  go_in
  go_wp2_with fail
  go_loopw [8] (fun v8 wr => ∃ i : Nat, i ≤ l.length ∧ v8 = .int .i64 (i : Int) ∧ (∀ j (hj : j < l.length), j < i → l[j].id ≠ id) ∧ Fresh w wr) (fun v8 _ => l.length - (RowKit.intOf v8).toNat)
  case atStart => exact ⟨0, by omega, rfl, fun _ _ h => by omega, Frm.refl _ _⟩
  case round =>
    obtain ⟨i, hi, rfl, hno, hf⟩ := hrel
    have HNO := zh hno
    have HF := zh hf
    clear hno
    have hi0 : (0 : Int) ≤ (i : Int) := by omega
    by_cases hlt : i < l.length
    · obtain ⟨b, o, rfl, _, h5⟩ := five_at ((HA.out.fresh (Nat.le_refl _) hf).more hf.size) hlt
      have HP := zh (placed_any l[i] g id wr (HG.out.frm hf (fun f => f)))
      obtain ⟨x, hx⟩ : ∃ x, x = l[i] := ⟨_, rfl⟩
      have HX := zh hx
      rw [← hx] at h5 HP
      clear hx
      obtain ⟨c0, c1, c2, c3, c4⟩ := h5
      have hlti : (i : Int) < (l.length : Int) := by omega
      unfold wagg at HP
      obtain ⟨xi, xc, xm, xt, xs⟩ := x
      dsimp only at HP c0 c1 c2 c3 c4
      clear hf
      by_cases hid : xi = id
      · have HID := zh hid
        have hb : decide (xi = id) = true := by simpa using hid
        rw [hb] at HP
        clear hid hb
        go_wp2_with fail
        refine HP.out.mono ?_
        rintro e w1 ⟨rfl, f1⟩
        have HF1 := zh (HF.out.trans f1)
        clear f1
        go_wp2_with fail
        go_ret
        exact ⟨ret_i64 (plc_at hlt HNO.out (by rw [← HX.out]; exact HID.out)).symm, HF1.out⟩
      · have HID := zh hid
        have hb : decide (xi = id) = false := by simpa using hid
        rw [hb] at HP
        clear hid hb
        go_wp2_with fail
        refine HP.out.mono ?_
        rintro e w1 ⟨rfl, f1⟩
        have HF1 := zh (HF.out.trans f1)
        clear f1
        go_wp2_with fail
        go_roundw
        case rel =>
          refine ⟨i + 1, by omega, by go_num, fun j hj hji => ?_, HF1.out⟩
          rcases Nat.lt_or_ge j i with h | h
          · exact HNO.out j hj h
          · obtain rfl : j = i := by omega
            rw [← HX.out]; exact HID.out
        case measure => simp [RowKit.intOf]; omega
    · have hlti : ¬ (i : Int) < (l.length : Int) := by omega
      clear hf
      go_wp2_with fail
      go_ret
      exact ⟨ret_i64 (plc_none (fun j hj => HNO.out j hj (by omega))).symm, HF.out⟩
structure IsQ (w : World) (B b : Nat) (v : Value) (l : List Wt) : Prop where
  blk : Blk w b 129 #[v]
  ge : B ≤ b
  sl : Sl w B 141 5 v l.length (l.flatMap wcells)
theorem place_any (w : World) (B b : Nat) (v : Value) (l : List Wt) (id : Int) (h : IsQ w B b v l) (hl : l.length ≤ 1000) :
    Calls Tryz.prog 58 #[.pointer (some ⟨b, 0, none⟩), .int .i64 id] w fun e w' => e = .returned (.int .i64 (plc id l)) ∧ Fresh w w' := by
  obtain ⟨A, cap, rfl, _, _, _⟩ := h.sl.shape
  have hc : w.cell? ⟨b, 0, none⟩ = some (.slice A l.length cap) := h.blk.cell 0
  have hlt := h.blk.lt
  have F := (Frm.refl (fun _ => False) w).alloc (.cells #[.int .i64 id] 3)
  have HF := zh F
  have HI := zh (indexFunc_any (w.alloc (.cells #[.int .i64 id] 3)) A cap l w.heap.size id ((h.sl.rd.alloc (Nat.le_refl _) _).more F.size) (Blk.new w _ _) hl)
  clear h F
  go_in
  go_wp2_with fail
  refine HI.out.mono ?_
  rintro e w1 ⟨rfl, f1⟩
  have HF1 := zh (HF.out.trans f1)
  clear f1
  go_wp2_with fail
  go_ret
  exact ⟨rfl, HF1.out⟩
end
section
open Go.RowKit QueueM
attribute [local go_sem ↓] Go.wp_at_zero Go.wp_at_succ
theorem mid_of (i j h : Nat) (hh : (i + j) / 2 = h) : ((i : Int) + (j : Int)) / 2 = (h : Int) := by omega
def SearchPost (w : World) (n : Nat) (e : Ending) (w' : World) : Prop := ∃ b, e = .returned (.tuple #[.int .i64 (n : Int), .bool b]) ∧ Fresh w w'
set_option maxRecDepth 100000 in
theorem search_any (w : World) (A : Option Addr) (cap : Nat) (l : List Wt) (x : Wt) (hA : Rd w w.heap.size A (l.flatMap wcells)) (hl : l.length ≤ 1000) (hs : Sorted l) :
    Calls Tryz.prog 59 #[.slice A l.length cap, wagg x, .func (.func 60) #[] #[]] w
      fun e w' => SearchPost w (cnt x l) e w' := by
  have HA := zh hA
  have HPOS := zh (ahead_pos hs x)
  have hcl := cnt_le x l
  clear hA hs
  obtain ⟨xi, xc, xm, xt, xs⟩ := x
  have HO : Hid (∀ (y : Wt) (w : World), Calls Tryz.prog 60 #[.agg #[.int .i64 y.id, .int .i64 y.cls, .int .i64 y.many, .int .i64 y.time, .float .f64 y.score], .agg #[.int .i64 xi, .int .i64 xc, .int .i64 xm, .int .i64 xt, .float .f64 xs]] w
      fun e w' => e = .returned (.int .i64 (ord y ⟨xi, xc, xm, xt, xs⟩)) ∧ Fresh w w') := zh fun y w => order_any y.id y.cls y.many y.time y.score xi xc xm xt xs w
  unfold wagg
  dsimp only
  generalize hc : cnt ⟨xi, xc, xm, xt, xs⟩ l = c at HPOS hcl
  clear hc
  go_in
  go_wp2_with fail
  obtain ⟨w0, hw0⟩ : ∃ w0, w.alloc (.cells #[.int .i64 xi, .int .i64 xc, .int .i64 xm, .int .i64 xt, .float .f64 xs] 141) = w0 := ⟨_, rfl⟩
  rw [hw0]
  have HF0 : Hid (Fresh w w0) := zh (by rw [← hw0]; exact (Frm.refl _ w).alloc _)
  have BX : Hid (∀ w', Fresh w0 w' → Five w' w.heap.size 0 ⟨xi, xc, xm, xt, xs⟩) := zh fun w' F => by
    have B1 : Blk w0 w.heap.size 141 (wcells ⟨xi, xc, xm, xt, xs⟩).toArray := by rw [← hw0]; exact Blk.new w _ _
    exact five_blk (B1.frm F (fun f => f))
  clear hw0
  go_loopw [9, 10] (fun v9 v10 wr => ∃ i j : Nat, i ≤ c ∧ c ≤ j ∧ j ≤ l.length ∧ v9 = .int .i64 (i : Int) ∧ v10 = .int .i64 (j : Int) ∧ Fresh w0 wr) (fun v9 v10 _ => (RowKit.intOf v10).toNat - (RowKit.intOf v9).toNat)
  case atStart => exact ⟨0, l.length, by omega, hcl, by omega, rfl, rfl, Frm.refl _ _⟩
  case round =>
    obtain ⟨i, j, hi, hj, hjl, rfl, rfl, hf⟩ := hrel
    have HF := zh hf
    have hi0 : (0 : Int) ≤ (i : Int) := by omega
    have hj0 : (0 : Int) ≤ (j : Int) := by omega
    have hib : (i : Int) ≤ 1000 := by omega
    have hjb : (j : Int) ≤ 1000 := by omega
    by_cases hlt : i < j
    · obtain ⟨h, hh⟩ : ∃ h, (i + j) / 2 = h := ⟨_, rfl⟩
      have hih : i ≤ h := by omega
      have hhj : h < j := by omega
      have hmid := mid_of i j h hh
      clear hh
      obtain ⟨b, o, rfl, _, h5⟩ := five_at ((HA.out.fresh (Nat.le_refl _) (HF0.out.trans hf)).more (HF0.out.trans hf).size) (i := h) (by omega)
      have hpos := HPOS.out h (by omega)
      obtain ⟨y, hy⟩ : ∃ y, y = l[h] := ⟨_, rfl⟩
      rw [← hy] at h5 hpos
      clear hy
      have HO1 := zh (fun w => HO.out y w)
      obtain ⟨yi, yc, ym, yt, ys⟩ := y
      have CELL : Hid (∀ w', Fresh wr w' → w'.cell? ⟨b, o + h * 5, none⟩ = some (.int .i64 yi) ∧ w'.cell? ⟨b, o + h * 5 + 1, none⟩ = some (.int .i64 yc) ∧ w'.cell? ⟨b, o + h * 5 + 2, none⟩ = some (.int .i64 ym) ∧ w'.cell? ⟨b, o + h * 5 + 3, none⟩ = some (.int .i64 yt) ∧ w'.cell? ⟨b, o + h * 5 + 4, none⟩ = some (.float .f64 ys) ∧ w'.cell? ⟨w.heap.size, 0, none⟩ = some (.int .i64 xi) ∧ w'.cell? ⟨w.heap.size, 1, none⟩ = some (.int .i64 xc) ∧ w'.cell? ⟨w.heap.size, 2, none⟩ = some (.int .i64 xm) ∧ w'.cell? ⟨w.heap.size, 3, none⟩ = some (.int .i64 xt) ∧ w'.cell? ⟨w.heap.size, 4, none⟩ = some (.float .f64 xs)) := zh fun w' F => by
        have a := h5.fresh F
        have c := BX.out w' (HF.out.trans F)
        exact ⟨a.1, a.2.1, a.2.2.1, a.2.2.2.1, a.2.2.2.2, c.1, c.2.1, c.2.2.1, c.2.2.2.1, c.2.2.2.2⟩
      clear h5 hf
      have hlti : (i : Int) < (j : Int) := by omega
      have hhl : (h : Int) < (l.length : Int) := by omega
      have hhl2 : h < l.length := by omega
      have hh0 : (0 : Int) ≤ (h : Int) := by omega
      go_wp2_with fail
      go_region_held3 (fun w' => w'.cell? ⟨b, o + h * 5, none⟩ = some (.int .i64 yi) ∧ w'.cell? ⟨b, o + h * 5 + 1, none⟩ = some (.int .i64 yc) ∧ w'.cell? ⟨b, o + h * 5 + 2, none⟩ = some (.int .i64 ym) ∧ w'.cell? ⟨b, o + h * 5 + 3, none⟩ = some (.int .i64 yt) ∧ w'.cell? ⟨b, o + h * 5 + 4, none⟩ = some (.float .f64 ys) ∧
        w'.cell? ⟨w.heap.size, 0, none⟩ = some (.int .i64 xi) ∧ w'.cell? ⟨w.heap.size, 1, none⟩ = some (.int .i64 xc) ∧ w'.cell? ⟨w.heap.size, 2, none⟩ = some (.int .i64 xm) ∧ w'.cell? ⟨w.heap.size, 3, none⟩ = some (.int .i64 xt) ∧ w'.cell? ⟨w.heap.size, 4, none⟩ = some (.float .f64 xs))
        (first | exact CELL.out _ (Frm.refl _ _) | exact CELL.out _ ((Frm.refl _ _).drew) | exact CELL.out _ (((Frm.refl _ _).drew).trans HF5.out))
        (first
          | (go_at_call 60; show Calls _ _ #[.agg #[.int .i64 yi, .int .i64 yc, .int .i64 ym, .int .i64 yt, .float .f64 ys], .agg #[.int .i64 xi, .int .i64 xc, .int .i64 xm, .int .i64 xt, .float .f64 xs]] wr.drew _; refine (HO1.out _).mono ?_; rintro e w5 ⟨rfl, f5⟩; have HF5 := zh f5; clear f5))
      have HF6 := zh ((HF.out.drew).trans HF5.out)
      by_cases hhc : h < c
      · have ho : ord ⟨yi, yc, ym, yt, ys⟩ ⟨xi, xc, xm, xt, xs⟩ < 0 := by
          rw [show decide (h < c) = true by simpa using hhc] at hpos
          simpa [QueueM.ahead] using hpos
        generalize ord ⟨yi, yc, ym, yt, ys⟩ ⟨xi, xc, xm, xt, xs⟩ = r at ho
        clear hpos hmid
        go_wp2_with fail
        go_roundw
        case rel => exact ⟨h + 1, j, by omega, hj, hjl, by go_num, rfl, HF6.out⟩
        case measure => simp [RowKit.intOf]; omega
      · have ho : ¬ ord ⟨yi, yc, ym, yt, ys⟩ ⟨xi, xc, xm, xt, xs⟩ < 0 := by
          rw [show decide (h < c) = false by simpa using hhc] at hpos
          simpa [QueueM.ahead] using hpos
        generalize ord ⟨yi, yc, ym, yt, ys⟩ ⟨xi, xc, xm, xt, xs⟩ = r at ho
        clear hpos hmid
        go_wp2_with fail
        go_roundw
        case rel => exact ⟨i, h, hi, by omega, by omega, rfl, rfl, HF6.out⟩
        case measure => simp [RowKit.intOf]; omega
    · obtain rfl : i = c := by omega
      have hlti : ¬ (i : Int) < (j : Int) := by omega
      by_cases hin : i < l.length
      · obtain ⟨b, o, rfl, _, h5⟩ := five_at ((HA.out.fresh (Nat.le_refl _) (HF0.out.trans hf)).more (HF0.out.trans hf).size) (i := i) hin
        obtain ⟨y, hy⟩ : ∃ y, y = l[i] := ⟨_, rfl⟩
        rw [← hy] at h5
        clear hy
        have HO1 := zh (fun w => HO.out y w)
        obtain ⟨yi, yc, ym, yt, ys⟩ := y
        have CELL : Hid (∀ w', Fresh wr w' → w'.cell? ⟨b, o + i * 5, none⟩ = some (.int .i64 yi) ∧ w'.cell? ⟨b, o + i * 5 + 1, none⟩ = some (.int .i64 yc) ∧ w'.cell? ⟨b, o + i * 5 + 2, none⟩ = some (.int .i64 ym) ∧ w'.cell? ⟨b, o + i * 5 + 3, none⟩ = some (.int .i64 yt) ∧ w'.cell? ⟨b, o + i * 5 + 4, none⟩ = some (.float .f64 ys) ∧ w'.cell? ⟨w.heap.size, 0, none⟩ = some (.int .i64 xi) ∧ w'.cell? ⟨w.heap.size, 1, none⟩ = some (.int .i64 xc) ∧ w'.cell? ⟨w.heap.size, 2, none⟩ = some (.int .i64 xm) ∧ w'.cell? ⟨w.heap.size, 3, none⟩ = some (.int .i64 xt) ∧ w'.cell? ⟨w.heap.size, 4, none⟩ = some (.float .f64 xs)) := zh fun w' F => by
          have a := h5.fresh F
          have c := BX.out w' (HF.out.trans F)
          exact ⟨a.1, a.2.1, a.2.2.1, a.2.2.2.1, a.2.2.2.2, c.1, c.2.1, c.2.2.1, c.2.2.2.1, c.2.2.2.2⟩
        clear h5 hf
        have hhl : (i : Int) < (l.length : Int) := by omega
        go_wp2_with fail
        go_region_held3 (fun w' => w'.cell? ⟨b, o + i * 5, none⟩ = some (.int .i64 yi) ∧ w'.cell? ⟨b, o + i * 5 + 1, none⟩ = some (.int .i64 yc) ∧ w'.cell? ⟨b, o + i * 5 + 2, none⟩ = some (.int .i64 ym) ∧ w'.cell? ⟨b, o + i * 5 + 3, none⟩ = some (.int .i64 yt) ∧ w'.cell? ⟨b, o + i * 5 + 4, none⟩ = some (.float .f64 ys) ∧
        w'.cell? ⟨w.heap.size, 0, none⟩ = some (.int .i64 xi) ∧ w'.cell? ⟨w.heap.size, 1, none⟩ = some (.int .i64 xc) ∧ w'.cell? ⟨w.heap.size, 2, none⟩ = some (.int .i64 xm) ∧ w'.cell? ⟨w.heap.size, 3, none⟩ = some (.int .i64 xt) ∧ w'.cell? ⟨w.heap.size, 4, none⟩ = some (.float .f64 xs))
          (first | exact CELL.out _ (Frm.refl _ _) | exact CELL.out _ ((Frm.refl _ _).drew) | exact CELL.out _ (((Frm.refl _ _).drew).trans HF5.out))
          (first
            | (go_at_call 60; show Calls _ _ #[.agg #[.int .i64 yi, .int .i64 yc, .int .i64 ym, .int .i64 yt, .float .f64 ys], .agg #[.int .i64 xi, .int .i64 xc, .int .i64 xm, .int .i64 xt, .float .f64 xs]] wr.drew _; refine (HO1.out _).mono ?_; rintro e w5 ⟨rfl, f5⟩; have HF5 := zh f5; clear f5))
        have HF6 := zh (HF0.out.trans ((HF.out.drew).trans HF5.out))
        go_wp2_with fail
        go_ret2
        exact ⟨_, rfl, HF6.out⟩
      · have hil : i = l.length := by omega
        have hni : decide (i < l.length) = false := by simp; omega
        have hni2 : ¬ (i : Int) < (l.length : Int) := by omega
        clear hil
        go_wp2_with fail
        go_quiet (fail)
        go_wp2_with fail
        go_ret2
        exact ⟨_, rfl, (HF0.out.trans HF.out).drewN _⟩
end
section
open Go.RowKit
def SrchPost (n : Nat) (w : World) (e : Ending) (w' : World) : Prop := ∃ (i : Nat) (b : Bool), i ≤ n ∧ e = .returned (.tuple #[.int .i64 (i : Int), .bool b]) ∧ Fresh w w'
theorem pSearch_any (w : World) (A : Option Addr) (cap : Nat) (l : List Int) (x : Int) (hA : Rd w w.heap.size A (ivs l)) (hl : l.length ≤ 100000) :
    Calls Tryz.prog 112 #[.slice A l.length cap, .int .i64 x] w fun e w' => SrchPost l.length w e w' := by
  have HA := zh hA
  clear hA
  go_in
  go_wp2_with fail
  go_loopw [7, 8] (fun v7 v8 wr => ∃ i j : Nat, i ≤ j ∧ j ≤ l.length ∧ v7 = .int .i64 (i : Int) ∧ v8 = .int .i64 (j : Int) ∧ wr = w) (fun v7 v8 _ => (RowKit.intOf v8).toNat - (RowKit.intOf v7).toNat)
  case atStart => exact ⟨0, l.length, by omega, by omega, rfl, rfl, by first | rfl | trivial⟩
  case round =>
    obtain ⟨i, j, hi, hjl, rfl, rfl, rfl⟩ := hrel
    have hi0 : (0 : Int) ≤ (i : Int) := by omega
    have hj0 : (0 : Int) ≤ (j : Int) := by omega
    have hib : (i : Int) ≤ 100000 := by omega
    have hjb : (j : Int) ≤ 100000 := by omega
    by_cases hlt : i < j
    · obtain ⟨h, hh⟩ : ∃ h, (i + j) / 2 = h := ⟨_, rfl⟩
      have hih : i ≤ h := by omega
      have hhj : h < j := by omega
      have hmid := mid_of i j h hh
      clear hh
      obtain ⟨b, o, rfl, _, hc⟩ := HA.out.at_ (k := h) (by unfold ivs; rw [List.length_map]; omega)
      unfold ivs at hc
      rw [List.getElem_map] at hc
      generalize l[h]'(by omega) = y at hc
      have hlti : (i : Int) < (j : Int) := by omega
      have hhl : (h : Int) < (l.length : Int) := by omega
      have hhl2 : h < l.length := by omega
      have hh0 : (0 : Int) ≤ (h : Int) := by omega
      go_wp2_with (go_at_call 145; refine (Go.Proofs.Tryz.cmp_Less_int2 _ _ _).mono ?_; rintro e w2 ⟨rfl, rfl⟩)
      all_goals (
        go_roundw
        case rel => first | exact ⟨h + 1, j, by omega, by omega, by go_num, rfl, by first | rfl | trivial⟩ | exact ⟨i, h, by omega, by omega, rfl, rfl, by first | rfl | trivial⟩
        case measure => simp [RowKit.intOf]; omega)
    · have hlti : ¬ (i : Int) < (j : Int) := by omega
      by_cases hin : i < l.length
      · have d1 : decide (i < l.length) = true := decide_eq_true hin
        have d2 : decide ((i : Int) < (l.length : Int)) = true := decide_eq_true (by omega)
        have hini : (i : Int) < (l.length : Int) := by omega
        obtain ⟨b, o, rfl, _, hc⟩ := HA.out.at_ (k := i) (by unfold ivs; rw [List.length_map]; omega)
        unfold ivs at hc
        rw [List.getElem_map] at hc
        generalize l[i] = y at hc
        by_cases hx : y = x
        · have d3 : (y == x) = true := by rw [hx]; simp
          clear hx
          go_wp2_with fail
          go_ret2
          exact ⟨i, true, by omega, rfl, Frm.refl _ _⟩
        · have d3 : (y == x) = false := by rw [beq_eq_false_iff_ne]; exact hx
          clear hx
          go_wp2_with (go_at_call 150; refine (Go.Proofs.Tryz.slices_isNaN_int2 _ _).mono ?_; rintro e w2 ⟨rfl, rfl⟩)
          go_ret2
          exact ⟨i, false, by omega, rfl, Frm.refl _ _⟩
      · have d1 : decide (i < l.length) = false := decide_eq_false hin
        have d2 : decide ((i : Int) < (l.length : Int)) = false := decide_eq_false (by omega)
        have hini : ¬ (i : Int) < (l.length : Int) := by omega
        go_wp2_with fail
        go_ret2
        exact ⟨i, false, by omega, rfl, Frm.refl _ _⟩
end
end Go.Proofs.YtbeaoddjomdlcaaGreatDoor

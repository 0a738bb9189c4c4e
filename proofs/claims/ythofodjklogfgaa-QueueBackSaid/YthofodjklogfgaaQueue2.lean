/- What order computes, of two who wait. -/
import Derived.Test.YthofodjklogfgaaQueue
import Derived.Deep.RegionHeld3
import Derived.Deep.DrawnRows
namespace Go.Proofs.Ythofodjklogfgaa
open Go.RowKit QueueM
attribute [local go_sem ↓] Go.wp_at_zero Go.wp_at_succ

theorem isNaNI_any (n : Int) (w : World) : Calls Try.prog 66 #[.int .i64 n] w fun e w' => e = .returned (.bool false) ∧ w' = w := by
  go_enter Try.func66, Try.ntmps66
  go_wp2
  go_ret
  exact ⟨ret_bool (by simp), rfl⟩
theorem cmpI_any (a b : Int) (w : World) : Calls Try.prog 50 #[.int .i64 a, .int .i64 b] w fun e w' => e = .returned (.int .i64 (FareM.sgnI a b)) ∧ w' = w := by
  unfold FareM.sgnI
  rcases Int.lt_trichotomy a b with h | h | h
  · rw [if_pos h]
    go_enter Try.func50, Try.ntmps50
    go_wp2
    go_ret
    exact ⟨rfl, rfl⟩
  · rw [if_neg (by omega), if_neg (by omega)]
    subst h
    go_enter Try.func50, Try.ntmps50
    go_wp2
    go_ret
    exact ⟨rfl, rfl⟩
  · rw [if_neg (by omega), if_pos h]
    go_enter Try.func50, Try.ntmps50
    go_wp2
    go_ret
    exact ⟨rfl, rfl⟩
/-- the first one that is not nought -/
def or3 (a b c : Int) : Int := if a ≠ 0 then a else if b ≠ 0 then b else c
theorem or_any (w : World) (b : Nat) (x y z : Int) (hb : Blk w b 3 #[.int .i64 x, .int .i64 y, .int .i64 z]) :
    Calls Try.prog 48 #[.slice (some ⟨b, 0, none⟩) 3 3] w fun e w' => e = .returned (.int .i64 (or3 x y z)) ∧ w' = w := by
  have c0 : w.cell? ⟨b, 0, none⟩ = some (.int .i64 x) := hb.cell 0
  have c1 : w.cell? ⟨b, 1, none⟩ = some (.int .i64 y) := hb.cell 1
  have c2 : w.cell? ⟨b, 2, none⟩ = some (.int .i64 z) := hb.cell 2
  clear hb
  rcases Bool.eq_false_or_eq_true (x != 0) with bx | bx
  · have HO := Lib.hid (show or3 x y z = x by unfold or3; rw [if_pos (by simpa using bx)])
    go_enter Try.func48, Try.ntmps48
    go_wp2_with fail
    go_loop [8] (fun v8 => v8 = .int .i64 0) (fun v8 => 3 - (intOf v8).toNat)
    case atStart => rfl
    case round =>
      subst hrel
      go_wp2_with fail
      go_ret
      exact ⟨ret_i64 HO.out.symm, rfl⟩
  · rcases Bool.eq_false_or_eq_true (y != 0) with b_y | b_y
    · have HO := Lib.hid (show or3 x y z = y by unfold or3; rw [if_neg (by simpa using bx), if_pos (by simpa using b_y)])
      go_enter Try.func48, Try.ntmps48
      go_wp2_with fail
      go_loop [8] (fun v8 => v8 = .int .i64 0 ∨ v8 = .int .i64 1) (fun v8 => 3 - (intOf v8).toNat)
      case atStart => exact .inl rfl
      case round =>
        rcases hrel with rfl | rfl
        · go_wp2_with fail
          go_round
          case rel => exact .inr rfl
          case measure => simp [intOf]
        · go_wp2_with fail
          go_ret
          exact ⟨ret_i64 HO.out.symm, rfl⟩
    · have HO := Lib.hid (show or3 x y z = z by unfold or3; rw [if_neg (by simpa using bx), if_neg (by simpa using b_y)])
      rcases Bool.eq_false_or_eq_true (z != 0) with bz | bz
      · go_enter Try.func48, Try.ntmps48
        go_wp2_with fail
        go_loop [8] (fun v8 => v8 = .int .i64 0 ∨ v8 = .int .i64 1 ∨ v8 = .int .i64 2) (fun v8 => 3 - (intOf v8).toNat)
        case atStart => exact .inl rfl
        case round =>
          rcases hrel with rfl | rfl | rfl
          · go_wp2_with fail
            go_round
            case rel => exact .inr (.inl rfl)
            case measure => simp [intOf]
          · go_wp2_with fail
            go_round
            case rel => exact .inr (.inr rfl)
            case measure => simp [intOf]
          · go_wp2_with fail
            go_ret
            exact ⟨ret_i64 HO.out.symm, rfl⟩
      · have HZ := Lib.hid (show z = 0 by simpa using bz)
        go_enter Try.func48, Try.ntmps48
        go_wp2_with fail
        go_loop [8] (fun v8 => v8 = .int .i64 0 ∨ v8 = .int .i64 1 ∨ v8 = .int .i64 2 ∨ v8 = .int .i64 3) (fun v8 => 3 - (intOf v8).toNat)
        case atStart => exact .inl rfl
        case round =>
          rcases hrel with rfl | rfl | rfl | rfl
          · go_wp2_with fail
            go_round
            case rel => exact .inr (.inl rfl)
            case measure => simp [intOf]
          · go_wp2_with fail
            go_round
            case rel => exact .inr (.inr (.inl rfl))
            case measure => simp [intOf]
          · go_wp2_with fail
            go_round
            case rel => exact .inr (.inr (.inr rfl))
            case measure => simp [intOf]
          · go_wp2_with fail
            go_ret
            exact ⟨ret_i64 (by rw [HO.out, HZ.out]), rfl⟩
theorem ord_or (a b : Wt) : or3 (FareM.rank b.score a.score) (FareM.sgnI a.time b.time) (FareM.sgnI a.id b.id) = ord a b := rfl
set_option maxHeartbeats 2000000 in
theorem order_any (i c m t : Int) (s : Nat) (i' c' m' t' : Int) (s' : Nat) (w : World) :
    Calls Try.prog 26 #[.agg #[.int .i64 i, .int .i64 c, .int .i64 m, .int .i64 t, .float .f64 s], .agg #[.int .i64 i', .int .i64 c', .int .i64 m', .int .i64 t', .float .f64 s']] w
      fun e w' => e = .returned (.int .i64 (ord ⟨i, c, m, t, s⟩ ⟨i', c', m', t', s'⟩)) ∧ Fresh w w' := by
  rw [← ord_or]
  dsimp only
  generalize hr : FareM.rank s' s = r
  have HR := Lib.hid (fun w => by rw [← hr]; exact rank_any s' s w : ∀ w, Calls Try.prog 49 #[.float .f64 s', .float .f64 s] w fun e w' => e = .returned (.int .i64 r) ∧ w' = w)
  clear hr
  go_enter Try.func26, Try.ntmps26
  go_wp2_with fail
  obtain ⟨w1, hw1⟩ : ∃ w1, (w.alloc (.cells #[.int .i64 i, .int .i64 c, .int .i64 m, .int .i64 t, .float .f64 s] 62)).alloc (.cells #[.int .i64 i', .int .i64 c', .int .i64 m', .int .i64 t', .float .f64 s'] 62) = w1 := ⟨_, rfl⟩
  rw [hw1]
  have F1 : Fresh w w1 := by rw [← hw1]; exact ((Frm.refl _ w).alloc _).alloc _
  have CELL : Hid (∀ w', Fresh w1 w' → w'.cell? ⟨w.heap.size, 0, none⟩ = some (.int .i64 i) ∧ w'.cell? ⟨w.heap.size, 3, none⟩ = some (.int .i64 t) ∧ w'.cell? ⟨w.heap.size, 4, none⟩ = some (.float .f64 s) ∧
      w'.cell? ⟨w.heap.size + 1, 0, none⟩ = some (.int .i64 i') ∧ w'.cell? ⟨w.heap.size + 1, 3, none⟩ = some (.int .i64 t') ∧ w'.cell? ⟨w.heap.size + 1, 4, none⟩ = some (.float .f64 s')) := Lib.hid fun w' F => by
    have B1 : Blk w1 w.heap.size 62 #[.int .i64 i, .int .i64 c, .int .i64 m, .int .i64 t, .float .f64 s] := by rw [← hw1]; exact (Blk.new w _ _).alloc _
    have B2 : Blk w1 (w.heap.size + 1) 62 #[.int .i64 i', .int .i64 c', .int .i64 m', .int .i64 t', .float .f64 s'] := by
      rw [← hw1]
      have := Blk.new (w.alloc (.cells #[.int .i64 i, .int .i64 c, .int .i64 m, .int .i64 t, .float .f64 s] 62)) 62 #[.int .i64 i', .int .i64 c', .int .i64 m', .int .i64 t', .float .f64 s']
      rwa [World.size_alloc] at this
    have b1 := B1.frm F (fun f => f)
    have b2 := B2.frm F (fun f => f)
    exact ⟨b1.cell 0, b1.cell 3, b1.cell 4, b2.cell 0, b2.cell 3, b2.cell 4⟩
  have HF1 := Lib.hid F1
  clear hw1 F1
  go_region_held3 (fun w' => w'.cell? ⟨w.heap.size, 0, none⟩ = some (.int .i64 i) ∧ w'.cell? ⟨w.heap.size, 3, none⟩ = some (.int .i64 t) ∧ w'.cell? ⟨w.heap.size, 4, none⟩ = some (.float .f64 s) ∧
      w'.cell? ⟨w.heap.size + 1, 0, none⟩ = some (.int .i64 i') ∧ w'.cell? ⟨w.heap.size + 1, 3, none⟩ = some (.int .i64 t') ∧ w'.cell? ⟨w.heap.size + 1, 4, none⟩ = some (.float .f64 s'))
    (first | exact CELL.out _ (Frm.refl _ _) | exact CELL.out _ ((Frm.refl _ _).drew) | exact CELL.out _ (((Frm.refl _ _).drew).alloc _))
    (first
      | (go_at_call 49; refine (HR.out _).mono ?_; rintro e w' ⟨rfl, rfl⟩)
      | (go_at_call 50; refine (cmpI_any _ _ _).mono ?_; rintro e w' ⟨rfl, rfl⟩)
      | (go_at_call 48; refine (or_any _ _ _ _ _ (Blk.new w1.drew _ _)).mono ?_; rintro e w' ⟨rfl, rfl⟩))
  go_wp2_with fail
  go_ret
  exact ⟨rfl, (HF1.out.drew).alloc _⟩
end Go.Proofs.Ythofodjklogfgaa

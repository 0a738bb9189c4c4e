/- The document's list: place, Right. (Printed by gen17.py.) -/
import Derived.Test.YthofodjklogfgaaQueue16
import Derived.Test.YthofodjklogfgaaSlots
namespace Go.Proofs.Ythofodjklogfgaa
open Go.RowKit QueueM
attribute [local go_sem] run_store_float

/-- a list of the document: its block, its slice -/
structure IsR (w : World) (B b : Nat) (v : Value) (l : List Wt) : Prop where
  blk : Blk w b 44 #[v]
  ge : B ≤ b
  sl : Sl w B 28 5 v l.length (l.flatMap wcells)
theorem right_no {x : Wt} (h : ¬ (1 ≤ x.id ∧ x.id ≤ 28629151 ∧ 0 ≤ x.cls ∧ x.cls ≤ 7 ∧ 1 ≤ x.many ∧ x.many ≤ 600 ∧ 0 ≤ x.time ∧ x.time ≤ 1099511627776)) : right x = false := by
  rcases Bool.eq_false_or_eq_true (right x) with hh | hh
  · exact absurd ((right_iff x).1 hh) h
  · exact hh
set_option maxHeartbeats 4000000 in
theorem refRight_any (x : Wt) (w : World) : Calls Try.prog 53 #[wagg x] w fun e w' => e = .returned (.bool (right x)) ∧ Fresh w w' := by
  have HF : Hid (∀ o, Fresh w (w.alloc o)) := Lib.hid fun o => (Frm.refl _ w).alloc o
  have HN : Hid (¬ (1 ≤ x.id ∧ x.id ≤ 28629151 ∧ 0 ≤ x.cls ∧ x.cls ≤ 7 ∧ 1 ≤ x.many ∧ x.many ≤ 600 ∧ 0 ≤ x.time ∧ x.time ≤ 1099511627776) → right x = false) := Lib.hid right_no
  have HY : Hid ((1 ≤ x.id ∧ x.id ≤ 28629151 ∧ 0 ≤ x.cls ∧ x.cls ≤ 7 ∧ 1 ≤ x.many ∧ x.many ≤ 600 ∧ 0 ≤ x.time ∧ x.time ≤ 1099511627776) → right x = true) := Lib.hid (right_iff x).2
  unfold wagg
  generalize hr : right x = r at HN HY ⊢
  clear hr
  obtain ⟨xi, xc, xm, xt, xs⟩ := x
  dsimp only at HN HY ⊢
  by_cases h0 : 1 ≤ xi
  case neg =>
    obtain rfl := HN.out (by omega)
    go_enter Try.func53, Try.ntmps53
    go_wp2_with fail
    go_ret
    exact ⟨ret_bool (by first | rfl | (simp; omega) | simp), HF.out _⟩
  case pos =>
    by_cases h1 : xi ≤ 28629151
    case neg =>
      obtain rfl := HN.out (by omega)
      go_enter Try.func53, Try.ntmps53
      go_wp2_with fail
      go_ret
      exact ⟨ret_bool (by first | rfl | (simp; omega) | simp), HF.out _⟩
    case pos =>
      by_cases h2 : 0 ≤ xc
      case neg =>
        obtain rfl := HN.out (by omega)
        go_enter Try.func53, Try.ntmps53
        go_wp2_with fail
        go_ret
        exact ⟨ret_bool (by first | rfl | (simp; omega) | simp), HF.out _⟩
      case pos =>
        by_cases h3 : xc ≤ 7
        case neg =>
          obtain rfl := HN.out (by omega)
          go_enter Try.func53, Try.ntmps53
          go_wp2_with fail
          go_ret
          exact ⟨ret_bool (by first | rfl | (simp; omega) | simp), HF.out _⟩
        case pos =>
          by_cases h4 : 1 ≤ xm
          case neg =>
            obtain rfl := HN.out (by omega)
            go_enter Try.func53, Try.ntmps53
            go_wp2_with fail
            go_ret
            exact ⟨ret_bool (by first | rfl | (simp; omega) | simp), HF.out _⟩
          case pos =>
            by_cases h5 : xm ≤ 600
            case neg =>
              obtain rfl := HN.out (by omega)
              go_enter Try.func53, Try.ntmps53
              go_wp2_with fail
              go_ret
              exact ⟨ret_bool (by first | rfl | (simp; omega) | simp), HF.out _⟩
            case pos =>
              by_cases h6 : 0 ≤ xt
              case neg =>
                obtain rfl := HN.out (by omega)
                go_enter Try.func53, Try.ntmps53
                go_wp2_with fail
                go_ret
                exact ⟨ret_bool (by first | rfl | (simp; omega) | simp), HF.out _⟩
              case pos =>
                by_cases h7 : xt ≤ 1099511627776
                case neg =>
                  obtain rfl := HN.out (by omega)
                  go_enter Try.func53, Try.ntmps53
                  go_wp2_with fail
                  go_ret
                  exact ⟨ret_bool (by first | rfl | (simp; omega) | simp), HF.out _⟩
                case pos =>
                  obtain rfl := HY.out (by omega)
                  go_enter Try.func53, Try.ntmps53
                  go_wp2_with fail
                  go_ret
                  exact ⟨ret_bool (by first | rfl | (simp; omega) | simp), HF.out _⟩
set_option maxHeartbeats 1000000 in
theorem refPlace_any (w : World) (B b : Nat) (v : Value) (l : List Wt) (id : Int) (h : IsR w B b v l) (hl : l.length ≤ 1000) :
    Calls Try.prog 54 #[.pointer (some ⟨b, 0, none⟩), .int .i64 id] w fun e w' => e = .returned (.int .i64 (plc id l)) ∧ w' = w := by
  obtain ⟨A, cap, rfl, _, _, _⟩ := h.sl.shape
  have hc : w.cell? ⟨b, 0, none⟩ = some (.slice A l.length cap) := h.blk.cell 0
  have HR := Lib.hid h.sl.rd
  clear h
  go_enter Try.func54, Try.ntmps54
  go_wp2_with fail
  go_loop [5] (fun v5 => ∃ i : Nat, i ≤ l.length ∧ v5 = .int .i64 (i : Int) ∧ (∀ j (hj : j < l.length), j < i → l[j].id ≠ id)) (fun v5 => l.length - (intOf v5).toNat)
  case atStart => exact ⟨0, by omega, rfl, fun _ _ h => by omega⟩
  case round =>
    obtain ⟨i, hi, rfl, hno⟩ := hrel
    have HNO := Lib.hid hno
    clear hno
    have hi0 : (0 : Int) ≤ (i : Int) := by omega
    by_cases hlt : i < l.length
    · obtain ⟨b', o, rfl, _, p5⟩ := five_at HR.out hlt
      have c0 := p5.1
      obtain ⟨x, hx⟩ : ∃ x, x = l[i] := ⟨_, rfl⟩
      have HX := Lib.hid hx
      rw [← hx] at c0
      clear hx p5
      have hlti : (i : Int) < (l.length : Int) := by omega
      by_cases he : x.id = id
      · have heb : (x.id == id) = true := by rw [beq_iff_eq]; exact he
        have HE := Lib.hid he
        clear he
        go_wp2_with fail
        go_ret
        exact ⟨ret_i64 (plc_at hlt HNO.out (by rw [← HX.out]; exact HE.out)).symm, rfl⟩
      · have heb : (x.id == id) = false := by rw [beq_eq_false_iff_ne]; exact he
        have HE := Lib.hid he
        clear he
        go_wp2_with fail
        go_round
        case rel =>
          refine ⟨i + 1, by omega, by go_num, fun j hj hji => ?_⟩
          rcases Nat.lt_or_ge j i with h | h
          · exact HNO.out j hj h
          · obtain rfl : j = i := by omega
            rw [← HX.out]; exact HE.out
        case measure => simp [intOf]; omega
    · have hlti : ¬ (i : Int) < (l.length : Int) := by omega
      go_wp2_with fail
      go_ret
      exact ⟨ret_i64 (plc_none (fun j hj => HNO.out j hj (by omega))).symm, rfl⟩
end Go.Proofs.Ythofodjklogfgaa

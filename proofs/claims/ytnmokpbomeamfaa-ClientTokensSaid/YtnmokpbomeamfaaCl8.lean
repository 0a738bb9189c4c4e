/- The law ClientTokens walked. -/
import Derived.Test.YtnmokpbomeamfaaCl6
namespace Go.Proofs.Ytnmokpbomeamfaa
open Go.RowKit

theorem zero_int (w : World) : (zeroValue 3).run Try.prog w = .ok (.int .i64 0) w := by kernel_rfl
/-- one client's step leaves another one as it was -/
theorem Cl.beside {w w' : World} {B b mb id : Nat} {A : Option Addr} {nc : Nat} {l : List Int} {a wt gv : Nat} {B' b' mb' id' : Nat} {A' : Option Addr} {nc' : Nat} {l' : List Int} {a' wt' gv' : Nat}
    (h : Cl w B b mb id A nc l a wt gv) (h' : Cl w B' b' mb' id' A' nc' l' a' wt' gv') (hb : b ≠ b') (hm : mb ≠ mb') (F : Frm (fun k => k = b ∨ k = mb) w w') : Cl w' B' b' mb' id' A' nc' l' a' wt' gv' := by
  obtain ⟨n, D, ho, _⟩ := h.om
  obtain ⟨n', D', ho', _⟩ := h'.om
  refine h'.frm F (fun hh => hh.elim (fun e => hb e.symm) (fun e => OM.not_cells ho h'.blk e.symm)) (fun hh => hh.elim (fun e => OM.not_cells ho' h.blk e) (fun e => hm e.symm)) (fun k hk hh => hh.elim (fun e => ?_) (fun e => ?_))
  · subst e
    exact h'.sl.apart h.blk (by decide) hk
  · subst e
    exact OM.not_sl ho h'.sl hk
theorem Cl.by_map {w w' : World} {B b mb id : Nat} {A : Option Addr} {nc : Nat} {l : List Int} {a wt gv : Nat} (h : Cl w B b mb id A nc l a wt gv) {sm n : Nat} {D : DU} {R : Value → Option (DU × List MemPlace)} {k : TypeId} (ho : w.ownsMap Try.prog k R sm n D) (hs : sm ≠ mb) (F : Frm (fun k => some sm = some k) w w') : Cl w' B b mb id A nc l a wt gv :=
  h.frm F (fun e => OM.not_cells ho h.blk (Option.some.inj e)) (fun e => hs (Option.some.inj e)) (fun j hj e => OM.not_sl ho h.sl (by rw [e]; exact hj))
theorem map_beside {w w' : World} {B b mb id : Nat} {A : Option Addr} {nc : Nat} {l : List Int} {a wt gv : Nat} (h : Cl w B b mb id A nc l a wt gv) {sm n : Nat} {D : DU} {R : Value → Option (DU × List MemPlace)} {k : TypeId} (ho : w.ownsMap Try.prog k R sm n D) (hs : sm ≠ mb) (F : Frm (fun k => k = b ∨ k = mb) w w') : w'.ownsMap Try.prog k R sm n D :=
  OM.frm ho F (fun hh => hh.elim (fun e => OM.not_cells ho h.blk e) hs)
theorem one_odd : [(1 : Int)].any oddNode = false := by decide
/-- of an id that may not be, or of one that may be -/
def NewBoth (w : World) (id : Int) (e : Ending) (w' : World) : Prop :=
  (¬ (1 ≤ id ∧ id ≤ 1000) ∧ e = .returned (.tuple #[.pointer none, .int .i64 1]) ∧ Fresh w w') ∨ (∃ n : Nat, id = (n : Int) ∧ 1 ≤ n ∧ n ≤ 1000 ∧ NewPost w n [1] e w')
theorem new_both (w : World) (id : Int) (A : Option Addr) (cap : Nat) (hA : Rd w w.heap.size A ([1].map iv)) (hc : 1 ≤ cap) (hm : cap ≤ maxLen) :
    Calls Try.prog 6 #[.int .i64 id, .slice A 1 cap, .slice none 0 0] w fun e w' => NewBoth w id e w' := by
  by_cases h : 1 ≤ id ∧ id ≤ 1000
  · obtain ⟨n, rfl⟩ := Int.eq_ofNat_of_zero_le (show 0 ≤ id by omega)
    exact (new_yes w n A cap [1] hA (by omega) (by omega) (by simp) (by simp) one_odd (by simpa using hc) hm).mono fun e w' hp => .inr ⟨n, rfl, by omega, by omega, hp⟩
  · refine (new_no w id A cap [1] hA (by omega)).mono fun e w' hp => .inl ⟨h, hp.1, ?_⟩
    rw [hp.2]
    exact Frm.refl _ _
set_option maxRecDepth 100000 in
set_option maxHeartbeats 8000000 in
theorem tokens_walk (w : World) (x : Int) (_ : (Lit.int .i64 x).wf = true) (y : Int) (_ : (Lit.int .i64 y).wf = true) (many : Int) (_ : (Lit.int .i64 many).wf = true) :
    Calls Try.prog 3 #[.int .i64 x, .int .i64 y, .int .i64 many] w fun e w' => e = .returned (.bool true) ∧ Below w.heap.size w w' := by
  have hmm := @run_makeMap Try.prog
  have K := Maps.int_keyed Try.underlying3
  go_enter Try.func3, Try.ntmps3
  go_wp2_with fail
  refine (awake_any w).mono ?_
  rintro e w1 ⟨rfl, f1⟩
  have HF1 := Lib.hid f1
  clear f1
  obtain ⟨W1, hW1⟩ : ∃ W, W = w1.alloc (.cells #[.int .i64 1] 3) := ⟨_, rfl⟩
  have R1 : Rd W1 W1.heap.size (some ⟨w1.heap.size, 0, none⟩) ([1].map iv) := by
    rw [hW1]
    exact (rd_new w1 ([1].map iv) 3).more (by simp)
  have HFW1 : Hid (Fresh w W1) := Lib.hid (by rw [hW1]; exact HF1.out.alloc _)
  have HN1 := Lib.hid (new_both W1 x (some ⟨w1.heap.size, 0, none⟩) 1 R1 (by omega) (by simp [maxLen]))
  clear R1
  go_wp2_with fail
  rw [← hW1]
  refine HN1.out.mono ?_
  clear hW1
  rintro e w2 (⟨hx, rfl, f2⟩ | ⟨a, rfl, ha1, ha2, b, mb, A, nc, rfl, hc, f2⟩)
  · -- the first one may not be
    have HF2 := Lib.hid (HFW1.out.trans f2)
    clear f2
    obtain ⟨W2, hW2⟩ : ∃ W, W = w2.alloc (.cells #[.int .i64 1] 3) := ⟨_, rfl⟩
    have R2 : Rd W2 W2.heap.size (some ⟨w2.heap.size, 0, none⟩) ([1].map iv) := by
      rw [hW2]
      exact (rd_new w2 ([1].map iv) 3).more (by simp)
    have HFW2 : Hid (Fresh w W2) := Lib.hid (by rw [hW2]; exact HF2.out.alloc _)
    have HN2 := Lib.hid (new_both W2 y (some ⟨w2.heap.size, 0, none⟩) 1 R2 (by omega) (by simp [maxLen]))
    clear R2 hx
    go_wp2_with fail
    rw [← hW2]
    refine HN2.out.mono ?_
    clear hW2
    rintro e w3 (⟨hy, rfl, f3⟩ | ⟨a', rfl, _, _, b', mb', A', nc', rfl, _, f3⟩)
    · have HF3 := Lib.hid (HFW2.out.trans f3)
      clear f3 hy
      go_wp2_with fail
      go_ret
      exact ⟨rfl, Fresh.below HF3.out⟩
    · have HF3 := Lib.hid (HFW2.out.trans f3)
      clear f3
      go_wp2_with fail
      go_ret
      exact ⟨rfl, Fresh.below HF3.out⟩
  · have HF2 := Lib.hid (HFW1.out.trans f2)
    have HC2 := Lib.hid hc
    clear f2 hc
    obtain ⟨W2, hW2⟩ : ∃ W, W = w2.alloc (.cells #[.int .i64 1] 3) := ⟨_, rfl⟩
    have R2 : Rd W2 W2.heap.size (some ⟨w2.heap.size, 0, none⟩) ([1].map iv) := by
      rw [hW2]
      exact (rd_new w2 ([1].map iv) 3).more (by simp)
    have f2W : Fresh w2 W2 := by rw [hW2]; exact (Frm.refl _ _).alloc _
    have HFW2 := Lib.hid (HF2.out.trans f2W)
    have HCW := Lib.hid (HC2.out.fresh f2W)
    have HN2 := Lib.hid (new_both W2 y (some ⟨w2.heap.size, 0, none⟩) 1 R2 (by omega) (by simp [maxLen]))
    clear R2 f2W
    go_wp2_with fail
    rw [← hW2]
    refine HN2.out.mono ?_
    clear hW2
    rintro e w3 (⟨hy, rfl, f3⟩ | ⟨a', rfl, hb1, hb2, b', mb', A', nc', rfl, hd, f3⟩)
    · have HF3 := Lib.hid (HFW2.out.trans f3)
      clear f3 hy
      go_wp2_with fail
      go_ret
      exact ⟨rfl, Fresh.below HF3.out⟩
    · have HF3 := Lib.hid (HFW2.out.trans f3)
      have hblt := HCW.out.blk.lt
      have hmlt : mb < W2.heap.size := by obtain ⟨n, D, ho, _⟩ := HCW.out.om; exact ho.lt
      have hmlt' : mb' < w3.heap.size := by obtain ⟨n, D, ho, _⟩ := hd.om; exact ho.lt
      have hge := hd.bge
      have hge' := hd.mge
      have hsz3 := f3.size
      have HNE : Hid (b ≠ b' ∧ mb ≠ mb' ∧ w3.heap.size ≠ mb ∧ w3.heap.size ≠ mb') := Lib.hid ⟨by omega, by omega, by omega, by omega⟩
      have HI : Hid (Cl (w3.alloc (.map #[] 0)) W1.heap.size b mb a A nc [1] 0 0 0 ∧ Cl (w3.alloc (.map #[] 0)) W2.heap.size b' mb' a' A' nc' [1] 0 0 0 ∧ (w3.alloc (.map #[] 0)).ownsMap Try.prog 3 (plainElem Try.prog 3) w3.heap.size 0 (.map [] : DU) ∧ Fresh w (w3.alloc (.map #[] 0))) := Lib.hid
        ⟨(HCW.out.fresh f3).fresh ((Frm.refl _ _).alloc _), hd.fresh ((Frm.refl _ _).alloc _), World.ownsMap_made _ _ _ _, HF3.out.alloc _⟩
      have hsm : w.heap.size ≤ w3.heap.size := HF3.out.size
      have hB1 := HFW1.out.size
      have hB2 := HFW2.out.size
      obtain ⟨sm, hsm'⟩ : ∃ sm, w3.heap.size = sm := ⟨_, rfl⟩
      rw [hsm'] at HNE HI hsm
      clear hd f3 hge hge' hsz3 hblt hmlt hmlt'
      go_wp2_with fail
      go_loopw [13] (fun v13 wr => ∃ (i n : Nat) (D : DU), i ≤ 200 ∧ v13 = .int .i64 (i : Int) ∧ Cl wr W1.heap.size b mb a A nc [1] 0 0 i ∧ Cl wr W2.heap.size b' mb' a' A' nc' [1] 0 0 i ∧ wr.ownsMap Try.prog 3 (plainElem Try.prog 3) sm n D ∧ n ≤ i ∧ (∀ j : Nat, i ≤ j → D.atKey (.int .i64 ((a : Int) * 1048576 + (j : Int))) (.lit (.int .i64 0)) = .lit (.int .i64 0)) ∧ Fresh w wr) (fun v13 _ => 200 - (intOf v13).toNat)
      case atStart => exact ⟨0, 0, _, by omega, rfl, HI.out.1, HI.out.2.1, HI.out.2.2.1, by omega, fun _ _ => rfl, HI.out.2.2.2⟩
      case round =>
        obtain ⟨i, n, D, hi, rfl, hc, hd, ho, hni, hat, hf⟩ := hrel
        clear hsm'
        have HC := Lib.hid hc
        have HD := Lib.hid hd
        have HO := Lib.hid ho
        have HAT := Lib.hid hat
        have HF := Lib.hid hf
        have hi0 : (0 : Int) ≤ (i : Int) := by omega
        have hi200 : (i : Int) ≤ 200 := by omega
        by_cases hgo : (i : Int) < many ∧ i < 200
        · obtain ⟨him, hi2⟩ := hgo
          have hi2i : (i : Int) < 200 := by omega
          have HW1 := Lib.hid (want_any wr W1.heap.size b mb a A nc [1] 0 0 i hc (by omega) (by omega) (by simp))
          clear hc hd ho hat hf
          go_wp2_with fail
          refine HW1.out.mono ?_
          rintro e w5 ⟨v5, bs5, rfl, hs5, _, hc5, f5⟩
          have HC5 := Lib.hid hc5
          have HD5 := Lib.hid (HC.out.beside HD.out HNE.out.1 HNE.out.2.1 f5)
          have HO5 := Lib.hid (map_beside HC.out HO.out HNE.out.2.2.1 f5)
          have HF5 : Hid (Fresh w w5) := Lib.hid (HF.out.trans' f5 (fun k hk hh => by
            have h1 := HC.out.bge
            have h2 := HC.out.mge
            rcases hh with e | e <;> omega))
          obtain ⟨A5, c5, rfl, _⟩ := hs5.shape
          have HW2 := Lib.hid (want_any w5 W2.heap.size b' mb' a' A' nc' [1] 0 0 i HD5.out (by omega) (by omega) (by simp))
          clear hs5 hc5 f5
          go_wp2_with fail
          refine HW2.out.mono ?_
          rintro e w6 ⟨v6, bs6, rfl, hs6, _, hd6, f6⟩
          have HD6 := Lib.hid hd6
          have HC6 := Lib.hid (HD5.out.beside HC5.out (fun e => HNE.out.1 e.symm) (fun e => HNE.out.2.1 e.symm) f6)
          have HO6 := Lib.hid (map_beside HD5.out HO5.out HNE.out.2.2.2 f6)
          have HF6 : Hid (Fresh w w6) := Lib.hid (HF5.out.trans' f6 (fun k hk hh => by
            have h1 := HD.out.bge
            have h2 := HD.out.mge
            rcases hh with e | e <;> omega))
          obtain ⟨A6, c6, rfl, _⟩ := hs6.shape
          have hkey : keyOf Try.prog 3 (.int .i64 ((a : Int) * 1048576 + (i : Int))) = some (.int .i64 ((a : Int) * 1048576 + (i : Int))) := Maps.keyOf_int_mk Try.underlying3 (by
            have : -9223372036854775808 ≤ (a : Int) * 1048576 + (i : Int) ∧ (a : Int) * 1048576 + (i : Int) ≤ 9223372036854775807 := by omega
            simpa [Lit.wf, IntKind.min, IntKind.max, IntKind.signed, IntKind.bits] using this)
          obtain ⟨c, hrun, hcat, _⟩ := HO6.out.lookup_int K Try.underlying28 Try.underlying3 (zero_int w6) hkey
          obtain rfl : c = 0 := by
            have h1 := HAT.out i (Nat.le_refl _)
            rw [hcat] at h1
            injection h1 with h1
            injection h1
          have HKEY := Lib.hid hkey
          have HPUT : Hid (∀ j : Nat, i + 1 ≤ j → (D.put (.int .i64 ((a : Int) * 1048576 + (i : Int))) (.lit (.int .i64 1))).atKey (.int .i64 ((a : Int) * 1048576 + (j : Int))) (.lit (.int .i64 0)) = .lit (.int .i64 0)) := Lib.hid fun j hj => by
            rw [Maps.atKey_put_other (by intro e; injection e with _ e; omega)]
            exact HAT.out j (by omega)
          have hs1 : ((a : Int) * 1048576 + (i : Int)) / 1048576 = (a : Int) := by omega
          have hs2 : ((a' : Int) * 1048576 + (i : Int)) / 1048576 = (a' : Int) := by omega
          have hmax : n < maxLen := by unfold maxLen; omega
          have ha0 : (0 : Int) ≤ (a : Int) := by omega
          have ha1000 : (a : Int) ≤ 1000 := by omega
          have hb0 : (0 : Int) ≤ (a' : Int) := by omega
          have hb1000 : (a' : Int) ≤ 1000 := by omega
          clear hs6 hd6 f6 hkey hcat
          go_wp2_with (at_mapUpdate; refine wpList_mapUpdate_own _ rfl _ _ _ 28 rfl 3 3 K Try.underlying28 _ sm n D rfl HO6.out hmax _ _ _ rfl rfl HKEY.out (.lit (.int .i64 1)) [] (plainElem_int Try.underlying3 (by decide)) ?_; intro w7 om7 g7)
          have F7 : Frm (fun k => some sm = some k) w6 w7 := Frm.of_grown g7
          have HC7 := Lib.hid (HC6.out.by_map HO6.out HNE.out.2.2.1 F7)
          have HD7 := Lib.hid (HD6.out.by_map HO6.out HNE.out.2.2.2 F7)
          have HO7 := Lib.hid om7
          have HF7 : Hid (Fresh w w7) := Lib.hid (HF6.out.trans' F7 (fun k hk e => by have := Option.some.inj e; omega))
          clear om7 g7 F7 hrun hs1 hs2
          go_roundw
          case rel => exact ⟨i + 1, n + 1, _, by omega, by go_num, HC7.out, HD7.out, HO7.out, by omega, HPUT.out, HF7.out⟩
          case measure => simp [intOf]; omega
        · have HEND : Hid (¬ (i : Int) < many ∨ ((i : Int) < many ∧ ¬ (i : Int) < 200)) := Lib.hid (by omega)
          clear hc hd ho hat hf hgo
          rcases HEND.out with hh | ⟨hh, hh2⟩
          all_goals
            go_wp2_with fail
            go_ret
            exact ⟨rfl, Fresh.below HF.out⟩
end Go.Proofs.Ytnmokpbomeamfaa

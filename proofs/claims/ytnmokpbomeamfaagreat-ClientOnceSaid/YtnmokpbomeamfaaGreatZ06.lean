/- Proved here, for the statement ClientOnceSaid: laws that its walk leans on. It holds with no condition. (Put together and shortened by a program out of many texts: On5, On20, QueueMath, Level0, Queue, Queue2, Waits, Queue3, Queue4, Slots, Queue5, Queue6, Queue7, Queue8, Queue9, Queue10.) -/
import Derived.Test.YtnmokpbomeamfaaGreatZ05
import Derived.Laws.CopyOwn
import Derived.Lib.Overlaps
import Derived.Lib.AppendZerosOnto
set_option linter.unusedVariables false
set_option maxRecDepth 100000
set_option maxHeartbeats 64000000
namespace Go.Proofs.YtnmokpbomeamfaaGreat
section
open Go.RowKit
theorem op_here {o : Oper} {l : List Oper} : (List.toArray (o :: l))[0]? = some o := rfl
theorem op_later {a o : Oper} {l : List Oper} {n : Nat} (h : (List.toArray l)[n]? = some o) : (List.toArray (a :: l))[n + 1]? = some o := by
 simpa using h
def freeTo (taken : List Int) : Nat → List Int
 | 0 => []
 | i + 1 => freeTo taken i ++ (if (i : Int) ∈ taken then [] else [(i : Int)])
theorem freeTo_len (taken : List Int) : ∀ i, (freeTo taken i).length ≤ i
 | 0 => by simp [freeTo]
 | i + 1 => by
  have := freeTo_len taken i
  unfold freeTo
  rw [zg]
  split <;> simp <;> omega
theorem freeTo_mem (taken : List Int) : ∀ i x, x ∈ freeTo taken i → ∃ k : Nat, x = (k : Int) ∧ k < i
 | 0, x, h => by simp [freeTo] at h
 | i + 1, x, h => by
  unfold freeTo at h
  rcases zy.1 h with h | h
  ·obtain ⟨k, h1, h2⟩ := freeTo_mem taken i x h
   exact ⟨k, h1, by omega⟩
  ·split at h
   ·cases h
   ·rw [zO] at h
    exact ⟨i, h, by omega⟩
def goodAt (a : Nat) (gs free : List Int) (many i : Nat) : Bool :=
 decide (free.getD (i + many - 1) 0 - free.getD i 0 = (many : Int) - 1) && decide (groupL a gs (free.getD i 0).toNat = groupL a gs (free.getD (i + many - 1) 0).toNat)
def bestI (a : Nat) (gs free : List Int) (many : Nat) : Nat → Nat → List Int
 | 0, _ => free.take many
 | k + 1, i => if goodAt a gs free many i = true then (free.drop i).take many else bestI a gs free many k (i + 1)
def bestF (a : Nat) (gs taken : List Int) (ct many : Nat) : Int × List Int :=
 if ct < many then (1, []) else if (freeTo taken ct).length < many then (3, []) else (0, bestI a gs (freeTo taken ct) many ((freeTo taken ct).length - many + 1) 0)
def BestPost (w : World) (v : Int × List Int) (e : Ending) (w' : World) : Prop :=
 ∃ A c, e = .returned (.tuple #[.slice A v.2.length c, .int .i64 v.1]) ∧ Rd w' w'.heap.size A (ivs v.2) ∧ v.2.length ≤ c ∧ c ≤ maxLen ∧ Fresh w w'
theorem best_nil {w w' : World} {v : Int × List Int} {y : Int} (h : v = (y, [])) (F : Fresh w w') : BestPost w v (.returned (.tuple #[.slice none 0 0, .int .i64 y])) w' := by
 rw [h]
 exact ⟨none, 0, rfl, Rd.nil _ _ _, by simp, by unfold maxLen; omega, F⟩
theorem best_some {w w' : World} {v : Int × List Int} {t : List Int} {A : Option Addr} {n c : Nat} (h : v = (0, t)) (ht : t.length = n) (hr : Rd w' w'.heap.size A (ivs t)) (hn : n ≤ c) (hc : c ≤ maxLen) (F : Fresh w w') : BestPost w v (.returned (.tuple #[.slice A n c, .int .i64 0])) w' := by
 rw [h]
 exact ⟨A, c, by rw [← ht], hr, by rw [← ht] at hn; exact hn, hc, F⟩
theorem part_run (g o fl c8 j jm many : Nat) (w' : World) (h1 : jm = j + many) (h2 : jm ≤ fl) (h3 : 0 < many) (h4 : fl ≤ c8) : (Instr.sliceAt 26 (.slice (some ⟨g, o, none⟩) fl c8) (some (.int .i64 (j : Int))) (some (.int .i64 (jm : Int))) none).run Tryz.prog w' = .ok (.slice (some ⟨g, o + j, none⟩) many (c8 - j)) w' := by
 obtain ⟨i0, hi, hz0, hz1, hz2⟩ := info_parts info_i64
 have ht : Tryz.prog.underlying 26 = some (.slice 3) := Tryz.underlying26
 have he : Tryz.prog.elem 26 = 3 := by simp [Program.elem, ht]
 have ht' : Tryz.prog.underlying 26 = some (.slice (Tryz.prog.elem 26)) := by rw [he]; exact ht
 have hso : (sizeOf (Tryz.prog.elem 26)).run Tryz.prog w' = .ok 1 w' := by rw [he]; simp [sizeOf, typeInfo, hi, hz1]
 rw [run_sliceAt_slice w' _ _ _ _ _ ht', run_slice_lh w' _ _ fl c8 ht' .i64 .i64 (j : Int) (jm : Int) (by omega) (by omega) (by omega), hso]
 simp only [Result.andThen, sliced, zx, Nat.mul_one]
 rw [zk (by omega), show jm - j = many by omega]
 simp [Addr.add_lit]
theorem rd_part {w : World} {B g o : Nat} {l : List Int} (h : Rd w B (some ⟨g, o, none⟩) (ivs l)) (hl : l.length ≤ 1000) (j m : Nat) : Rd w B (some ⟨g, o + j, none⟩) (ivs ((l.drop j).take m)) := fun hne => by
 have hne' : ivs l ≠ [] := fun e => by
  have : l = [] := List.map_eq_nil_iff.1 e
  rw [this] at hne
  simp at hne
 obtain ⟨b, o', hA, hb, hc⟩ := h hne'
 injection hA with hA
 injection hA with e1 e2
 subst e1 e2
 refine ⟨_, _, rfl, hb, fun k u hu => ?_⟩
 rw [Nat.add_assoc]
 refine hc (j + k) u ?_
 have : ivs ((l.drop j).take m) = ((ivs l).drop j).take m := by unfold ivs; rw [List.map_take, List.map_drop]
 rw [this] at hu
 rw [List.getElem?_take] at hu
 split at hu
 ·rw [List.getElem?_drop] at hu
  exact hu
 ·cases hu
theorem best_any (w : World) (r : Int) (A : Option Addr) (c : Nat) (gs : List Int) (hA : Rd w w.heap.size A (ivs gs)) (hri : jU r gs = true) (a ct : Nat) (ha : gs.sum = (a : Int)) (hct : qJ r gs = (ct : Int))
 (TA : Option Addr) (tc : Nat) (taken : List Int) (hT : Rd w w.heap.size TA (ivs taken)) (htl : taken.length ≤ 100000) (many : Nat) (hm1 : 1 ≤ many) (hm2 : many ≤ 10000) :
 Calls Tryz.prog 129 #[.agg #[.int .i64 r, .slice A gs.length c], .slice TA taken.length tc, .int .i64 (many : Int)] w fun e w' => BestPost w (bestF a gs taken ct many) e w' := by
 obtain ⟨⟨q1, q2⟩, ⟨l1, l4⟩, hg, q3⟩ := rightL_of hri
 have hs : small gs := ⟨by omega, fun g hx => by have := hg g hx; omega⟩
 have hc6 : ct ≤ 600 := by
  have h1 : qJ r gs = r * gs.sum := by unfold qJ; rw [zl hri]
  have h2 := Int.mul_le_mul q2 q3 (sum_small gs hs.2).1 (by omega)
  omega
 obtain ⟨W, hW⟩ : ∃ W, w.alloc (.cells #[.int .i64 r, .slice A gs.length c] 92) = W := ⟨_, rfl⟩
 have hFW : Fresh w W := by rw [← hW]; exact (za _ w).alloc _
 have hBX : Blk W w.heap.size 92 #[.int .i64 r, .slice A gs.length c] := by rw [← hW]; exact Blk.new w _ _
 have HF := zh hFW
 have y0 : W.cell? ⟨w.heap.size, 0, none⟩ = some (.int .i64 r) := hBX.cell 0
 have y1 : W.cell? ⟨w.heap.size, 1, none⟩ = some (.slice A gs.length c) := hBX.cell 1
 have hA2 := (hA.fresh (zf _) hFW).more hFW.size
 have HS := zh hs
 have HCO : Hid (∀ w', Fresh W w' → Calls Tryz.prog 115 #[.agg #[.int .i64 r, .slice A gs.length c]] w' fun e w'' => e = .returned (.int .i64 (ct : Int)) ∧ Fresh w' w'') := zh fun w' F => by rw [← hct]; exact countL_any w' r A c gs ((hA2.fresh (zf _) F).more F.size) hs
 have HGR : Hid (∀ w' (n : Nat), Fresh W w' → n ≤ 600 → Calls Tryz.prog 132 #[.agg #[.int .i64 r, .slice A gs.length c], .int .i64 (n : Int)] w' fun e w'' => e = .returned (.int .i64 (groupL a gs n : Int)) ∧ Fresh w' w'') := zh fun w' n F hn => group_any w' r A c gs ((hA2.fresh (zf _) F).more F.size) hri n a ha hn
 have HCC : Hid (∀ w', Fresh W w' → w'.cell? ⟨w.heap.size, 0, none⟩ = some (.int .i64 r) ∧ w'.cell? ⟨w.heap.size, 1, none⟩ = some (.slice A gs.length c)) := zh fun w' F => ⟨(hBX.frm F (fun f => f)).cell 0, (hBX.frm F (fun f => f)).cell 1⟩
 have HHA : Hid (∀ w' (n : Int), Fresh W w' → Calls Tryz.prog 126 #[.slice TA taken.length tc, .int .i64 n] w' fun e w'' => e = .returned (.bool (decide (n ∈ taken))) ∧ w'' = w') := zh fun w' n F => refHas_any w' TA tc taken n (((hT.fresh (zf _) hFW).fresh (zp hFW.size (zf _)) F).more (zp hFW.size F.size)) htl
 obtain ⟨gn, hgn⟩ : ∃ x, x = gs.length := ⟨_, rfl⟩
 rw [← hgn] at y1 HCO HGR HCC hW ⊢
 obtain ⟨tn, htn⟩ : ∃ x, x = taken.length := ⟨_, rfl⟩
 rw [← htn] at HHA ⊢
 obtain ⟨i0, hi, hz0, hz1, hz2⟩ := info_parts info_i64
 have d0 : decide ((many : Int) < 1) = false := zb (by omega)
 clear hFW hBX hA hA2 hs hri hg ha hct hgn htn hT q3 l1 l4 q1 q2 htl
 go_in
 go_wp2_with fail
 try rw [hW]
 clear hW
 refine (HCO.out W (za _ _)).mono ?_
 rintro e x1 ⟨rfl, f1⟩
 have HF1 := zh f1
 clear f1 y0 y1
 by_cases hcm : ct < many
 ·have d1 : decide ((ct : Int) < (many : Int)) = true := zc (by omega)
  have HV : Hid (bestF a gs taken ct many = (1, [])) := zh (by unfold bestF; rw [zl hcm])
  go_wp2_with fail
  exact zi (v := .tuple #[.slice none 0 0, .int .i64 1]) (by simp [results, Tryz.results129, go_sem]) rfl (best_nil HV.out (HF.out.trans HF1.out))
 ·have d1 : decide ((ct : Int) < (many : Int)) = false := zb (by omega)
  go_wp2_with fail
  go_loopw [8, 9] (fun v8 v9 wr => ∃ (i : Nat) (l : List Int), i ≤ ct ∧ v9 = .int .i64 (i : Int) ∧ l = freeTo taken i ∧ Sl wr x1.heap.size 3 1 v8 l.length (ivs l) ∧ Fresh x1 wr) (fun _ v9 _ => ct - (intOf v9).toNat)
  case atStart => exact ⟨0, [], by omega, rfl, rfl, Sl.nil _ _ _ _, za _ _⟩
  case round =>
   obtain ⟨i, l, hil, rfl, hl, hsl, hf⟩ := hrel
   have hi0 : (0 : Int) ≤ (i : Int) := by omega
   have HL := zh hl
   have HSL := zh hsl
   have HFX := zh hf
   have HFR := zh (HF1.out.trans hf)
   obtain ⟨A8, c8, rfl, hle8, hm8, _⟩ := hsl.shape
   have hlen : l.length ≤ 600 := by have := freeTo_len taken i; rw [← hl] at this; omega
   obtain ⟨k0, k1⟩ := HCC.out wr HFR.out
   have HCT := zh (HCO.out wr HFR.out)
   clear hl hsl hf
   go_wp2_with fail
   refine HCT.out.mono ?_
   rintro e x2 ⟨rfl, f2⟩
   have HF2 := zh (HFR.out.trans f2)
   have HX2 := zh (HFX.out.trans f2)
   have HS2 := zh (HSL.out.fresh f2)
   clear f2 k0 k1 HCT
   by_cases hlt : i < ct
   ·have hlti : (i : Int) < (ct : Int) := by omega
    have HH := zh (HHA.out x2 (i : Int) HF2.out)
    go_wp2_with fail
    refine HH.out.mono ?_
    rintro e w' ⟨rfl, hw'⟩
    rw [hw']
    clear hw' w'
    by_cases hin : (i : Int) ∈ taken
    ·have HN : Hid (l = freeTo taken (i + 1)) := zh (by rw [HL.out, freeTo, zl hin, List.append_nil])
     rw [zc hin]
     clear hin
     go_wp2_with fail
     go_roundw
     case rel => exact ⟨i + 1, l, by omega, by go_num, HN.out, HS2.out, HX2.out⟩
     case measure => simp [intOf]; omega
    ·have HN : Hid (l ++ [(i : Int)] = freeTo taken (i + 1)) := zh (by rw [HL.out, freeTo, zk hin])
     rw [zb hin]
     have R := zh (qE x2 (.int .i64 (i : Int)) 3)
     have HSA := zh (HS2.out.alloc (.cells #[.int .i64 (i : Int)] 3))
     have HXZ := zh HX2.out.size
     clear hin
     go_wp2_with (at_builtin; refine jD _ rfl (.tmp 32) (.tmp 34) _ rfl x1.heap.size 3 i0 _ 1 8 Tryz.underlying26 hi hz0 hz1 hz2 rfl (by omega) _ l.length _ rfl HSA.out _ _ 1 _ _ rfl (by rfl) R.out (fun u hu => by simp at hu; subst hu; rfl) (by unfold maxLen; omega) (by omega) (by have := HXZ.out; simp; omega) ?_; intro v5 x5 hs5 hf5 ha5)
     have HS5 : Hid (Sl x5 x1.heap.size 3 1 v5 (l ++ [(i : Int)]).length (ivs (l ++ [(i : Int)]))) := zh (by
      rw [zg, List.length_singleton]
      unfold ivs
      rw [zn]
      exact hs5)
     have HX5 : Hid (Fresh x1 x5) := zh ((HX2.out.alloc _).trans' hf5 (fun k hk e => by have := (HSA.out.lt k e).1; omega))
     clear hs5 hf5 ha5
     go_wp2_with fail
     go_roundw
     case rel => exact ⟨i + 1, l ++ [(i : Int)], by omega, by go_num, HN.out, HS5.out, HX5.out⟩
     case measure => simp [intOf]; omega
   ·have hlti : ¬ (i : Int) < (ct : Int) := by omega
    obtain rfl : i = ct := by omega
    obtain ⟨fl, hfl⟩ : ∃ x, x = l.length := ⟨_, rfl⟩
    rw [← hfl] at HS2 hlen ⊢
    have HFL := zh hfl
    clear hfl
    by_cases hfm : fl < many
    ·have d2 : decide ((fl : Int) < (many : Int)) = true := zc (by omega)
     have d3 : (fl : Int) < (many : Int) := by omega
     have HV : Hid (bestF a gs taken i many = (3, [])) := zh (by unfold bestF; rw [zk hcm, zl (by rw [← HL.out, ← HFL.out]; exact hfm)])
     go_wp2_with fail
     exact zi (v := .tuple #[.slice none 0 0, .int .i64 3]) (by simp [results, Tryz.results129, go_sem]) rfl (best_nil HV.out (HF.out.trans HF2.out))
    ·have d2 : decide ((fl : Int) < (many : Int)) = false := zb (by omega)
     have d3 : ¬ (fl : Int) < (many : Int) := by omega
     have HV : Hid (bestF a gs taken i many = (0, bestI a gs l many (fl - many + 1) 0)) := zh (by unfold bestF; rw [zk hcm, zk (by rw [← HL.out, ← HFL.out]; exact hfm), ← HL.out, ← HFL.out])
     have HMEM : Hid (∀ x ∈ l, ∃ k : Nat, x = (k : Int) ∧ k ≤ 600) := zh fun x hx => by
      rw [HL.out] at hx
      obtain ⟨k, h1, h2⟩ := freeTo_mem taken i x hx
      exact ⟨k, h1, by omega⟩
     obtain ⟨g, o, cap8, hv8, hg1, hg2, hle9, hmx9⟩ := HS2.out.head (by omega)
     injection hv8 with e1 e2 e3
     subst e1 e3
     clear HL HFX HSL HFR e2
     go_wp2_with fail
     go_loopw [11] (fun v11 wr => ∃ j : Nat, j ≤ fl - many + 1 ∧ v11 = .int .i64 (j : Int) ∧ bestI a gs l many (fl - many + 1) 0 = bestI a gs l many (fl - many + 1 - j) j ∧ Fresh x2 wr) (fun v11 _ => fl + 1 - (intOf v11).toNat)
     case atStart => exact ⟨0, by omega, rfl, rfl, za _ _⟩
     case round =>
      obtain ⟨j, hj, rfl, hb, hf⟩ := hrel
      have hj0 : (0 : Int) ≤ (j : Int) := by omega
      have HB := zh hb
      have HFR := zh (HF2.out.trans hf)
      have HXR := zh hf
      have HSR := zh (HS2.out.fresh hf)
      clear hb hf
      obtain ⟨jm, hjm⟩ : ∃ x, x = j + many := ⟨_, rfl⟩
      have wj : IntKind.i64.wrap ((j : Int) + (many : Int)) = (jm : Int) := by rw [zm _ (by omega)]; omega
      by_cases hle : jm ≤ fl
      ·have d4 : decide ((jm : Int) ≤ (fl : Int)) = true := zc (by omega)
       have d5 : (jm : Int) ≤ (fl : Int) := by omega
       obtain ⟨e, he⟩ : ∃ x, x = jm - 1 := ⟨_, rfl⟩
       have we : IntKind.i64.wrap ((jm : Int) - 1) = (e : Int) := by rw [zm _ (by omega)]; omega
       have wm : IntKind.i64.wrap ((many : Int) - 1) = (many : Int) - 1 := zm _ (by omega)
       have he0 : (0 : Int) ≤ (e : Int) := by omega
       have he1 : (e : Int) < (fl : Int) := by omega
       have hj1 : (j : Int) < (fl : Int) := by omega
       have hel : e < l.length := by have := HFL.out; omega
       have hjl : j < l.length := by have := HFL.out; omega
       obtain ⟨s, hs1, hs2⟩ := HMEM.out _ (ze hel)
       obtain ⟨p, hp1, hp2⟩ := HMEM.out _ (ze hjl)
       have ce : wr.cell? ⟨g, o + e, none⟩ = some (.int .i64 (s : Int)) := by
        have h := HSR.out.cell (j := e) (by simpa using hel)
        rw [List.getElem_map, hs1] at h
        exact h
       have cj : wr.cell? ⟨g, o + j, none⟩ = some (.int .i64 (p : Int)) := by
        have h := HSR.out.cell (j := j) (by simpa using hjl)
        rw [List.getElem_map, hp1] at h
        exact h
       have HGD : Hid (goodAt a gs l many j = (decide ((s : Int) - (p : Int) = (many : Int) - 1) && decide (groupL a gs p = groupL a gs s))) := zh (by
        unfold goodAt
        rw [show j + many - 1 = e by omega, List.getD_eq_getElem?_getD, List.getD_eq_getElem?_getD, zH hel, zH hjl, hs1, hp1]
        rfl)
       have HST : Hid (bestI a gs l many (fl - many + 1) 0 = if goodAt a gs l many j = true then (l.drop j).take many else bestI a gs l many (fl - many + 1 - (j + 1)) (j + 1)) := zh (by rw [HB.out, show fl - many + 1 - j = (fl - many + 1 - (j + 1)) + 1 by omega, bestI])
       have ws : IntKind.i64.wrap ((s : Int) - (p : Int)) = (s : Int) - (p : Int) := zm _ (by omega)
       obtain ⟨k0, k1⟩ := HCC.out wr HFR.out
       have hsm : (j : Int) + (many : Int) = (jm : Int) := by omega
       have hsb : (jm : Int) - 1 = (e : Int) := by omega
       have HJM := zh hjm
       have HJ1 : Hid (j + 1 ≤ fl - many + 1) := zh (by omega)
       clear hs1 hp1 hel hjl he hjm
       by_cases hd : (s : Int) - (p : Int) = (many : Int) - 1
       ·have d6 : ((s : Int) - (p : Int) == (many : Int) - 1) = true := by rw [beq_iff_eq]; exact hd
        have HD := zh hd
        clear hd
        have HB1 : Hid (∀ w', Fresh wr.drew w' → w'.cell? ⟨w.heap.size, 0, none⟩ = some (.int .i64 r) ∧ w'.cell? ⟨w.heap.size, 1, none⟩ = some (.slice A gn c) ∧ w'.cell? ⟨g, o + j, none⟩ = some (.int .i64 (p : Int))) := zh fun w' F =>
         ⟨(HCC.out w' (HFR.out.drew.trans F)).1, (HCC.out w' (HFR.out.drew.trans F)).2, (F.cell (World.block_lt_of_cell? _ _ (show wr.drew.cell? _ = _ from cj)) (fun f => f)).trans cj⟩
        obtain ⟨gp, hgp⟩ : ∃ x, x = groupL a gs p := ⟨_, rfl⟩
        obtain ⟨gq, hgq⟩ : ∃ x, x = groupL a gs s := ⟨_, rfl⟩
        have HP1 : Hid (∀ w', Fresh wr.drew w' → Calls Tryz.prog 132 #[.agg #[.int .i64 r, .slice A gn c], .int .i64 (p : Int)] w' fun e w'' => e = .returned (.int .i64 (gp : Int)) ∧ Fresh w' w'') := zh fun w' F => by rw [hgp]; exact HGR.out w' p (HFR.out.drew.trans F) hp2
        have HS1 : Hid (∀ w', Fresh wr.drew w' → Calls Tryz.prog 132 #[.agg #[.int .i64 r, .slice A gn c], .int .i64 (s : Int)] w' fun e w'' => e = .returned (.int .i64 (gq : Int)) ∧ Fresh w' w'') := zh fun w' F => by rw [hgq]; exact HGR.out w' s (HFR.out.drew.trans F) hs2
        have HRR : Hid (Fresh wr.drew wr.drew) := zh (za _ _)
        have HGP := zh hgp
        have HGQ := zh hgq
        clear hgp hgq
        go_wp2_with fail
        have hsW := HB1.out _ HRR.out
        refine zj (S := (fun w' => w'.cell? ⟨w.heap.size, 0, none⟩ = some (.int .i64 r) ∧ w'.cell? ⟨w.heap.size, 1, none⟩ = some (.slice A gn c) ∧ w'.cell? ⟨g, o + j, none⟩ = some (.int .i64 (p : Int)))) (by kernel_rfl) (HB1.out _ HRR.out) (fun hHeld => ?_)
        iterate 15 ((first | refine ztn (v := ?_) (zo rfl) ?_ | refine ztz (v := ?_) (zo rfl) ?_); try simp only [Act.put, zT, zZ, zS])
        (refine zt 16 (v := ?_) (zo rfl) ?_; try simp only [Act.put, zT, zZ, zS])
        iterate 1 (refine ztn (v := ?_) (zo rfl) ?_; try simp only [Act.put, zT, zZ, zS])
        refine zr1 15 (zo rfl) (fun K hK => ?_)
        go_simp
        refine (HP1.out wr.drew HRR.out).mono ?_
        rintro e wa ⟨rfl, fwa⟩
        have HQ := zh ((HRR.out).trans fwa)
        clear fwa
        refine hK.out _ _ (HB1.out _ HQ.out) (fun hHeld => ?_)
        clear hK K
        try simp only [Act.put, zT, zZ, zS]
        refine zr1 18 (zo rfl) (fun K hK => ?_)
        go_simp
        refine (HS1.out wa HQ.out).mono ?_
        rintro e wb ⟨rfl, fwb⟩
        have HQ2 := zh ((HQ.out).trans fwb)
        clear fwb
        refine hK.out _ _ (HB1.out _ HQ2.out) (fun hHeld => ?_)
        clear hK K
        try simp only [Act.put, zT, zZ, zS]
        iterate 2 (refine ztn (v := ?_) (zo rfl) ?_; try simp only [Act.put, zT, zZ, zS])
        refine wpAnyH_done (by kernel_rfl) ?_ _
        have HFB := zh (HFR.out.drew.trans HQ2.out)
        have HXB := zh (HXR.out.drew.trans HQ2.out)
        have HSB := zh (HS2.out.fresh HXB.out)
        clear hHeld hsW HB1 HP1 HS1
        by_cases hgg : gp = gq
        ·have d7 : ((gp : Int) == (gq : Int)) = true := by rw [hgg]; simp
         have HN : Hid (bestI a gs l many (fl - many + 1) 0 = (l.drop j).take many) := zh (by rw [HST.out, HGD.out, zc HD.out, ← HGP.out, ← HGQ.out, hgg]; simp)
         have HE : Hid (bestF a gs taken i many = (0, (l.drop j).take many)) := zh (by rw [HV.out, HN.out])
         have hcutE : ∀ w', (Instr.sliceAt 26 (.slice (some ⟨g, o, none⟩) fl c8) (some (.int .i64 (j : Int))) (some (.int .i64 (jm : Int))) none).run Tryz.prog w' = .ok (.slice (some ⟨g, o + j, none⟩) many (c8 - j)) w' := fun w' => part_run g o fl c8 j jm many w' (by have := HJM.out; omega) (by omega) (by have := HJM.out; omega) (by omega)
         have HLN : Hid (((l.drop j).take many).length = many) := zh (by rw [zw, zN]; have := HFL.out; have := HJM.out; omega)
         have HRP := zh (rd_part HSB.out.rd (by have := HFL.out; omega) j many)
         have hbn : many ≤ c8 - j := by have := HJM.out; omega
         have hbm : c8 - j ≤ maxLen := by omega
         clear hgg
         go_wp2_with fail
         exact zi (v := .tuple #[.slice (some ⟨g, o + j, none⟩) many (c8 - j), .int .i64 0]) (by simp [results, Tryz.results129, go_sem]) rfl (best_some HE.out HLN.out HRP.out hbn hbm (HF.out.trans HFB.out))
        ·have d7 : ((gp : Int) == (gq : Int)) = false := by rw [zC]; omega
         have HN : Hid (bestI a gs l many (fl - many + 1) 0 = bestI a gs l many (fl - many + 1 - (j + 1)) (j + 1)) := zh (by rw [HST.out, HGD.out, zc HD.out, ← HGP.out, ← HGQ.out, zb hgg]; simp)
         clear hgg
         go_wp2_with fail
         go_roundw
         case rel => exact ⟨j + 1, HJ1.out, by go_num, HN.out, HXB.out⟩
         case measure => simp [intOf]; omega
       ·have d6 : ((s : Int) - (p : Int) == (many : Int) - 1) = false := by rw [zC]; exact hd
        have HN : Hid (bestI a gs l many (fl - many + 1) 0 = bestI a gs l many (fl - many + 1 - (j + 1)) (j + 1)) := zh (by rw [HST.out, HGD.out, zb hd, Bool.false_and, zk (by simp)])
        clear hd
        go_wp2_with fail
        go_quiet (fail)
        rename_i nq
        have HX2 : Hid (Fresh x2 (wr.drewN nq)) := zh (HXR.out.drewN nq)
        go_wp2_with fail
        go_roundw
        case rel => exact ⟨j + 1, HJ1.out, by go_num, HN.out, HX2.out⟩
        case measure => simp [intOf]; omega
      ·have d4 : decide ((jm : Int) ≤ (fl : Int)) = false := zb (by omega)
       have d5 : ¬ (jm : Int) ≤ (fl : Int) := by omega
       have HE : Hid (bestF a gs taken i many = (0, l.take many)) := zh (by rw [HV.out, HB.out, show fl - many + 1 - j = 0 by omega]; rfl)
       have HTK : Hid (Rd wr wr.heap.size (some ⟨g, o, none⟩) (ivs (l.take many))) := zh (by have h := HSR.out.rd.take many; unfold ivs; rw [List.map_take]; exact h)
       have hmc : (many : Int) ≤ (c8 : Int) := by omega
       have hsm : (j : Int) + (many : Int) = (jm : Int) := by omega
       clear hjm
       go_wp2_with fail
       exact zi (v := .tuple #[.slice (some ⟨g, o, none⟩) many c8, .int .i64 0]) (by simp [results, Tryz.results129, go_sem]) rfl (best_some HE.out (by rw [zw]; have := HFL.out; omega) HTK.out (by omega) hmx9 (HF.out.trans HFR.out))
theorem bestI_mem (a : Nat) (gs free : List Int) (many : Nat) : ∀ k i x, x ∈ bestI a gs free many k i → x ∈ free
 | 0, i, x, h => by unfold bestI at h; exact List.mem_of_mem_take h
 | k + 1, i, x, h => by
  unfold bestI at h
  split at h
  ·exact List.mem_of_mem_drop (List.mem_of_mem_take h)
  ·exact bestI_mem a gs free many k (i + 1) x h
theorem bestF_mem {a : Nat} {gs taken : List Int} {ct many : Nat} {x : Int} (h : x ∈ (bestF a gs taken ct many).2) : 0 ≤ x ∧ x < (ct : Int) := by
 unfold bestF at h
 split at h
 ·cases h
 ·split at h
  ·cases h
  ·obtain ⟨k, h1, h2⟩ := freeTo_mem taken ct x (bestI_mem a gs _ many _ _ x h)
   omega
theorem bestI_len (a : Nat) (gs free : List Int) (many : Nat) : ∀ k i, (bestI a gs free many k i).length ≤ many
 | 0, i => by unfold bestI; rw [zw]; omega
 | k + 1, i => by
  unfold bestI
  split
  ·rw [zw]; omega
  ·exact bestI_len a gs free many k (i + 1)
theorem bestF_len (a : Nat) (gs taken : List Int) (ct many : Nat) : (bestF a gs taken ct many).2.length ≤ many := by
 unfold bestF
 split
 ·simp
 ·split
  ·simp
  ·exact bestI_len a gs _ many _ _
def autoA (m : Fl) (ow : Int) : Int × Fl :=
 if placeA ow m.hs 0 < 0 then (2, m)
 else if 0 < (m.hs.getD (placeA ow m.hs 0).toNat ⟨0, 0, 0, []⟩).st.length then (7, m)
 else if (bestF m.gs.sum.toNat m.gs (qI m.hs) (qJ m.rows m.gs).toNat (m.hs.getD (placeA ow m.hs 0).toNat ⟨0, 0, 0, []⟩).mn.toNat).1 ≠ 0 then ((bestF m.gs.sum.toNat m.gs (qI m.hs) (qJ m.rows m.gs).toNat (m.hs.getD (placeA ow m.hs 0).toNat ⟨0, 0, 0, []⟩).mn.toNat).1, m)
 else (0, { m with hs := m.hs.set (placeA ow m.hs 0).toNat ((m.hs.getD (placeA ow m.hs 0).toNat ⟨0, 0, 0, []⟩).put (bestF m.gs.sum.toNat m.gs (qI m.hs) (qJ m.rows m.gs).toNat (m.hs.getD (placeA ow m.hs 0).toNat ⟨0, 0, 0, []⟩).mn.toNat).2) })
def AutoPost (w : World) (B f : Nat) (M : FlM) (r : Int × Fl) (e : Ending) (w' : World) : Prop := ∃ v, e = .returned (.tuple #[v, .int .i64 r.1]) ∧ StepF w B f M r.2 w'
theorem taken_few {m : Fl} (hk : FlOk m) (hl : m.hs.length ≤ 100) : (qI m.hs).length ≤ 100000 := by
 have h1 : ∀ l : List Ha, (∀ x ∈ l, x.st.length ≤ 600) → (qI l).length ≤ l.length * 600 := by
  intro l
  induction l with
  | nil => intro _; simp [qI]
  | cons x r ih =>
   intro hx
   have := ih (fun y hy => hx y (List.mem_cons_of_mem _ hy))
   have h2 := hx x (by simp)
   unfold qI at this ⊢
   rw [zq, zg, zG]
   omega
 have h3 := h1 m.hs (fun x hx => by have := hk.hold x hx; omega)
 omega
theorem auto15_any (w : World) (B f : Nat) (m : FlM) (ow : Int) (h : FlAt w B f m) (hB : B ≤ w.heap.size) (hk : FlOk m.abs) (hl : m.hs.length ≤ 100) :
 Calls Tryz.prog 113 #[.pointer (some ⟨f, 0, none⟩), .int .i64 ow] w fun e w' => AutoPost w B f m (autoA m.abs ow) e w' := by
 obtain ⟨i0, hi, hz0, hz1, hz2⟩ := info_parts info_str
 obtain ⟨i8, hi8, hz80, hz81, hz82⟩ := info_parts info_i64
 have HPL : Hid (Calls Tryz.prog 100 #[.pointer (some ⟨f, 0, none⟩), .int .i64 ow] w fun e w' => e = .returned (.int .i64 (placeA ow m.abs.hs 0)) ∧ w' = w) := zh (by have e1 : placeF ow m.hs 0 = placeA ow m.abs.hs 0 := placeA_eq ow m.hs 0; rw [← e1]; exact place15_any w B f m ow h (by omega))
 have hpc : placeA ow m.abs.hs 0 = -1 ∨ ∃ k : Nat, k < m.hs.length ∧ placeA ow m.abs.hs 0 = (k : Int) := by
  rcases placeA_cases ow m.abs.hs 0 with h | ⟨k, h1, h2⟩
  ·exact .inl h
  ·exact .inr ⟨k, by simpa [FlM.abs] using h1, by simpa using h2⟩
 obtain ⟨a, ct, ha, hct, hct6, ha10⟩ := hk.count
 have hea : m.abs.gs.sum.toNat = a := by show m.gs.sum.toNat = a; rw [ha]; rfl
 have hec : (qJ m.abs.rows m.abs.gs).toNat = ct := by show (qJ m.rows m.gs).toNat = ct; rw [hct]; rfl
 have htl := taken_few hk (by show (m.hs.map Hd.abs).length ≤ 100; rw [zB]; exact hl)
 have HST : Hid (∀ w', Fresh w w' → StepF w B f m m.abs w') := zh fun w' F => StepF.still h F
 have HTA : Hid (∀ w', Fresh w w' → Calls Tryz.prog 127 #[.pointer (some ⟨f, 0, none⟩)] w' fun e w'' => OwnL w' (qI m.abs.hs) e w'') := zh fun w' F => by
  have e1 : takenF m.hs = qI m.abs.hs := takenA_eq m.hs
  rw [← e1] at htl ⊢
  exact taken_any w' B f m (h.fresh F) (by omega) htl
 have hgse : m.abs.gs = m.gs := rfl
 rcases hpc with hp | ⟨p, hp, hpe⟩
 ·have HV1 : Hid (autoA m.abs ow = (2, m.abs)) := zh (by unfold autoA; rw [zl (by omega)])
  rw [hp] at HPL
  rw [HV1.out]
  clear HV1 hp hk h htl hea hec ha hct HTA
  go_in
  go_wp2_with fail
  refine HPL.out.mono ?_
  rintro e w1 ⟨rfl, hw1⟩
  rw [hw1]
  clear hw1 w1
  go_wp2_with fail
  exact zi (v := .tuple #[.slice none 0 0, .int .i64 2]) (by simp [results, Tryz.results113, go_sem]) rfl ⟨_, rfl, HST.out _ (za _ _)⟩
 ·have hgd : m.abs.hs.getD p ⟨0, 0, 0, []⟩ = m.hs[p].abs := by
   unfold FlM.abs
   dsimp only
   rw [List.getD_eq_getElem?_getD, List.getElem?_map, zH hp]
   rfl
  have hkp := hk.at_ _ (ze hp)
  obtain ⟨many, hmany⟩ : ∃ n : Nat, m.hs[p].mn = (n : Int) := ⟨m.hs[p].mn.toNat, by omega⟩
  have hmn : m.hs[p].abs.mn.toNat = many := by show m.hs[p].mn.toNat = many; rw [hmany]; rfl
  have hst : m.hs[p].abs.st = m.hs[p].st := rfl
  have HV1 : Hid (autoA m.abs ow = if 0 < m.hs[p].st.length then (7, m.abs) else if (bestF a m.gs (qI m.abs.hs) ct many).1 ≠ 0 then ((bestF a m.gs (qI m.abs.hs) ct many).1, m.abs) else (0, { m.abs with hs := m.abs.hs.set p (m.hs[p].abs.put (bestF a m.gs (qI m.abs.hs) ct many).2) })) := zh (by
   unfold autoA
   rw [hpe, zk (by omega), zx, hgd, hea, hec, hmn, hst, hgse]
   rfl)
  rw [hpe] at HPL
  obtain ⟨b, o, hAe, _, hh0, hh1, hh2, hh3⟩ := hold_at h.hsl.rd hp
  have hbb : b < w.heap.size := World.block_lt_of_cell? _ _ hh3
  have HY1 : Hid (∀ w', Fresh w w' → w'.cell? ⟨f, 1, none⟩ = some (.int .i64 m.rows)) := zh fun w' F => (h.fresh F).blk.cell 1
  have HY2 : Hid (∀ w', Fresh w w' → w'.cell? ⟨f, 2, none⟩ = some (.slice m.GA m.gs.length m.gc)) := zh fun w' F => (h.fresh F).blk.cell 2
  have HY4 : Hid (∀ w', Fresh w w' → w'.cell? ⟨f, 4, none⟩ = some (.slice (some ⟨b, o, none⟩) m.hs.length m.hc)) := zh fun w' F => by rw [← hAe]; exact (h.fresh F).blk.cell 4
  have HY5 : Hid (∀ w', Fresh w w' → w'.cell? ⟨b, o + p * 4 + 3, none⟩ = some (.slice m.hs[p].A m.hs[p].st.length m.hs[p].c)) := zh fun w' F => (F.cell (p := ⟨b, o + p * 4 + 3, none⟩) hbb (fun f => f)).trans hh3
  have HY6 : Hid (∀ w', Fresh w w' → w'.cell? ⟨b, o + p * 4 + 2, none⟩ = some (.int .i64 (many : Int))) := zh fun w' F => by rw [← hmany]; exact (F.cell (p := ⟨b, o + p * 4 + 2, none⟩) hbb (fun f => f)).trans hh2
  have HZ5 : Hid (∀ w', Fresh w w' → w'.frozen? ⟨b, o + p * 4 + 3, none⟩ = false) := zh fun w' F => by
   have := (h.fresh F).hsl
   rw [hAe] at this
   exact this.frozen _
  have HBE : Hid (∀ w' TA tc, Fresh w w' → Rd w' w'.heap.size TA (ivs (qI m.abs.hs)) → Calls Tryz.prog 129 #[.agg #[.int .i64 m.rows, .slice m.GA m.gs.length m.gc], .slice TA (qI m.abs.hs).length tc, .int .i64 (many : Int)] w' fun e w'' => BestPost w' (bestF a m.gs (qI m.abs.hs) ct many) e w'') := zh fun w' TA tc F hr => best_any w' m.rows m.GA m.gc m.gs (h.fresh F).gsl.rd hk.right a ct ha hct TA tc (qI m.abs.hs) hr htl many (by omega) (by omega)
  have HLA : Hid (∀ w' (i : Nat), Fresh w w' → i < ct → Calls Tryz.prog 101 #[.agg #[.int .i64 m.rows, .slice m.GA m.gs.length m.gc], .int .i64 (i : Int)] w' fun e w'' => LabelPost w' (nameOf a i) e w'') := zh fun w' i F hi => label_yes w' m.rows m.GA m.gc m.gs (h.fresh F).gsl.rd hk.small i a ha (by rw [hct]; omega)
  have HBM : Hid (∀ x ∈ (bestF a m.gs (qI m.abs.hs) ct many).2, 0 ≤ x ∧ x < (ct : Int)) := zh fun x hx => bestF_mem hx
  have hbl : (bestF a m.gs (qI m.abs.hs) ct many).2.length ≤ 600 := by have := bestF_len a m.gs (qI m.abs.hs) ct many; omega
  have HSET : Hid (∀ (w1 : World) A c st, Fresh w w1 → Sl w1 w.heap.size 3 1 (.slice A st.length c) st.length (ivs st) → StepF w B f m { m.abs with hs := m.abs.hs.set p ((m.hs[p]).abs.put st) } (w1.setCell ⟨b, o + p * 4 + 3, none⟩ (.slice A st.length c))) := zh fun w1 A c st F hs => FlAt.setS (h.fresh F) F hp hAe (hs.less hB)
  clear hst hmn hmany hgd hh0 hh1 hh2 hh3 hpe hk ha hct hea hec ha10 hgse hkp
  generalize m.abs = ma at HV1 HST HSET HTA HBE HBM htl hbl ⊢
  generalize qI ma.hs = tk at HV1 HTA HBE HBM htl hbl
  generalize bestF a m.gs tk ct many = bf at HV1 HBE HBM hbl
  obtain ⟨be, bl⟩ := bf
  dsimp only at HV1 HBM hbl
  generalize m.hs[p].abs = hab at HV1 HSET
  generalize m.hs[p].st.length = stl at HY5 HV1
  generalize m.hs[p].A = SA at HY5
  generalize m.hs[p].c = sc at HY5
  generalize m.rows = rows at HY1 HBE HLA
  generalize m.GA = GA at HY2 HBE HLA
  generalize m.gs.length = gn at HY2 HBE HLA
  generalize m.gc = gc at HY2 HBE HLA
  generalize m.hc = hcap at HY4
  have hn1 := hl
  generalize m.hs.length = hn at HY4 hp hn1
  have p0 : (0 : Int) ≤ (p : Int) := by omega
  have p1 : (p : Int) < (hn : Int) := by omega
  have p2 : ¬ (p : Int) < 0 := by omega
  have p3 : decide ((p : Int) < 0) = false := zb p2
  have k4 := HY4.out w (za _ _)
  have k5 := HY5.out w (za _ _)
  clear h
  by_cases c1 : 0 < stl
  ·rw [zl c1] at HV1
   have d1 : decide ((0 : Int) < (stl : Int)) = true := zc (by omega)
   have d2 : (0 : Int) < (stl : Int) := by omega
   go_in
   go_wp2_with fail
   refine HPL.out.mono ?_
   rintro e w1 ⟨rfl, hw1⟩
   rw [hw1]
   clear hw1 w1
   go_wp2_with fail
   exact zi (v := .tuple #[.slice none 0 0, .int .i64 7]) (by simp [results, Tryz.results113, go_sem]) rfl (by rw [HV1.out]; exact ⟨_, rfl, HST.out _ (za _ _)⟩)
  ·rw [zk c1] at HV1
   have d1 : decide ((0 : Int) < (stl : Int)) = false := zb (by omega)
   have d2 : ¬ (0 : Int) < (stl : Int) := by omega
   have hs0 : stl = 0 := by omega
   subst hs0
   have HT1 := zh (HTA.out w.drew (za _ _).drew)
   have HCC : Hid (∀ w', Fresh w w' → w'.cell? ⟨f, 1, none⟩ = some (.int .i64 rows) ∧ w'.cell? ⟨f, 2, none⟩ = some (.slice GA gn gc) ∧ w'.cell? ⟨f, 4, none⟩ = some (.slice (some ⟨b, o, none⟩) hn hcap) ∧ w'.cell? ⟨b, o + p * 4 + 2, none⟩ = some (.int .i64 (many : Int))) := zh fun w' F => ⟨HY1.out w' F, HY2.out w' F, HY4.out w' F, HY6.out w' F⟩
   go_in
   go_wp2_with fail
   refine HPL.out.mono ?_
   rintro e w1 ⟨rfl, hw1⟩
   rw [hw1]
   clear hw1 w1
   go_wp2_with fail
   go_region_held3 (fun w' => w'.cell? ⟨f, 1, none⟩ = some (.int .i64 rows) ∧ w'.cell? ⟨f, 2, none⟩ = some (.slice GA gn gc) ∧ w'.cell? ⟨f, 4, none⟩ = some (.slice (some ⟨b, o, none⟩) hn hcap) ∧ w'.cell? ⟨b, o + p * 4 + 2, none⟩ = some (.int .i64 (many : Int))) (first | exact HCC.out _ (za _ _).drew | exact HCC.out _ HF2.out | exact HCC.out _ HF3.out)
    (first
     | (go_at_call 127; show Calls _ _ #[_] w.drew _; refine HT1.out.mono ?_; rintro e w2 ⟨v2, rfl, s2, f2⟩; obtain ⟨A2, c2, rfl, _⟩ := s2.shape; have HS2 := zh s2; have HF2 := zh ((za (fun _ => False) w).drew.trans f2); clear f2 s2)
     | (go_at_call 129; show Calls _ _ #[_, _, _] w2 _; refine (HBE.out w2 _ _ HF2.out HS2.out.rd).mono ?_; rintro e w3 ⟨A3, c3, rfl, r3, l3, m3, f3⟩; have HF3 := zh (HF2.out.trans f3); have HR3 := zh r3; clear f3 r3))
   by_cases c2 : be = 0
   ·subst c2
    rw [zk (by simp)] at HV1
    try dsimp only at HR3 l3
    go_wp2_with fail
    go_loopw [9, 10] (fun v9 v10 wr => ∃ (k : Nat) (acc : List (List UInt8)), k ≤ bl.length ∧ v10 = .int .i64 (k : Int) ∧ acc.length ≤ k ∧ Sl wr w3.heap.size 9 1 v9 acc.length (svs acc) ∧ Fresh w3 wr) (fun _ v10 _ => bl.length - (intOf v10).toNat)
    case atStart => exact ⟨0, [], by omega, rfl, by simp, Sl.nil _ _ _ _, za _ _⟩
    case round =>
     obtain ⟨k, acc, hkl, rfl, hal, hsl, hf⟩ := hrel
     have hk0 : (0 : Int) ≤ (k : Int) := by omega
     have HFR := zh hf
     have HFX := zh (HF3.out.trans hf)
     obtain ⟨A9, c9, rfl, _⟩ := hsl.shape
     have HSL := zh hsl
     have HAL := zh hal
     have hal6 : acc.length ≤ 600 := by omega
     clear hsl hf hal
     by_cases hlt : k < bl.length
     ·have hlti : (k : Int) < (bl.length : Int) := by omega
      obtain ⟨b6, o6, hSA, _, hc6⟩ := (HR3.out.fresh (zf _) HFR.out).at_ (k := k) (by simpa using hlt)
      subst hSA
      rw [List.getElem_map] at hc6
      obtain ⟨hn0, hn1⟩ := HBM.out _ (ze hlt)
      generalize bl[k] = n at hc6 hn0 hn1
      obtain ⟨n, rfl⟩ := zA hn0
      have HLL := zh (HLA.out wr.drew n HFX.out.drew (by omega))
      have HCX : Hid (∀ w', Fresh wr w' → w'.cell? ⟨f, 1, none⟩ = some (.int .i64 rows) ∧ w'.cell? ⟨f, 2, none⟩ = some (.slice GA gn gc) ∧ w'.cell? ⟨b6, o6 + k, none⟩ = some (.int .i64 (n : Int))) := zh fun w' F =>
       ⟨HY1.out w' (HFX.out.trans F), HY2.out w' (HFX.out.trans F), (F.cell (World.block_lt_of_cell? _ _ hc6) (fun f => f)).trans hc6⟩
      generalize nameOf a n = nm at HLL
      clear hc6
      go_wp2_with fail
      go_region_held3 (fun w' => w'.cell? ⟨f, 1, none⟩ = some (.int .i64 rows) ∧ w'.cell? ⟨f, 2, none⟩ = some (.slice GA gn gc) ∧ w'.cell? ⟨b6, o6 + k, none⟩ = some (.int .i64 (n : Int))) (first | exact HCX.out _ (za _ _).drew | exact HCX.out _ ((za _ _).drew.trans HF6.out))
       (first | (go_at_call 101; show Calls _ _ #[_, _] wr.drew _; refine HLL.out.mono ?_; rintro e w6 ⟨rfl, f6⟩; have HF6 := zh f6; clear f6))
      have HF7 := zh (HFR.out.drew.trans HF6.out)
      have HSL7 := zh (HSL.out.fresh ((za _ _).drew.trans HF6.out))
      have R1 := zh (qE w6 (.string (str nm)) 9)
      have HSA := zh (HSL7.out.alloc (.cells #[.string (str nm)] 9))
      have HFA := zh (HF7.out.alloc (.cells #[.string (str nm)] 9))
      have t4 : ∀ u ∈ [Value.string (str nm)], u.oneCell' = true := fun u hu => by simp at hu; subst hu; rfl
      go_wp2_with (at_builtin; refine jK (by rfl) (.tmp 67) (.tmp 69) _ rfl w3 9 i0 _ 1 16 Tryz.underlying104 hi hz0 hz1 hz2 rfl Nat.one_pos _ acc.length _ rfl HSA.out _ _ 1 _ _ rfl rfl R1.out t4 (by omega) (by omega) HFA.out ?_; intro v5 x5 hs5 hf5)
      have HS5 : Hid (Sl x5 w3.heap.size 9 1 v5 (acc ++ [nm]).length (svs (acc ++ [nm]))) := zh (snoc_ss hs5)
      have HF5 := zh hf5
      clear hs5 hf5
      go_roundw
      case rel => exact ⟨k + 1, acc ++ [nm], by omega, by go_num, by have := HAL.out; simp; omega, HS5.out, HF5.out⟩
      case measure => simp [intOf]; omega
     ·have hlti : ¬ (k : Int) < (bl.length : Int) := by omega
      have S0 : Hid (Sl (wr.alloc (.cells #[] 3)).drew wr.heap.size 3 1 (.slice (some ⟨wr.heap.size, 0, none⟩) 0 0) 0 []) := zh (nil_sl wr _ 1)
      have F0 : Hid (Fresh wr (wr.alloc (.cells #[] 3)).drew) := zh ((jC wr _).drew)
      have HYW : Hid (∀ w', Fresh wr w' → w'.cell? ⟨f, 4, none⟩ = some (.slice (some ⟨b, o, none⟩) hn hcap)) := zh fun w' F => HY4.out w' (HFX.out.trans F)
      have HZW : Hid (∀ w', Fresh wr w' → w'.frozen? ⟨b, o + p * 4 + 3, none⟩ = false ∧ w'.cell? ⟨b, o + p * 4 + 3, none⟩ = some (.slice SA 0 sc)) := zh fun w' F => ⟨HZ5.out w' (HFX.out.trans F), HY5.out w' (HFX.out.trans F)⟩
      have hc0 := HYW.out wr.drew (za _ _).drew
      have hc1 := HYW.out _ F0.out
      have RT : Hid (Rd (wr.alloc (.cells #[] 3)).drew wr.heap.size A3 (ivs bl)) := zh ((((HR3.out.fresh (zf _) HFR.out).more HFR.out.size).alloc (zf _) _).drew)
      have HL1 : Hid ((ivs bl).length = bl.length * 1) := zh (by unfold ivs; rw [zB, Nat.mul_one])
      go_wp2_with fail
      go_region_law (first
       | (refine step_app (by rfl) (.tmp 76) (.tmp 77) _ (by rfl) wr 3 i8 _ 1 8 Tryz.underlying26 hi8 hz80 hz81 hz82 rfl (by omega) (.slice (some ⟨wr.heap.size, 0, none⟩) 0 0) 0 [] (by simp [Act.eval, Act.put]) S0.out wr.heap.size A3 bl.length c3 (ivs bl) (by simp [Act.eval, Act.put]) HL1.out RT.out (ivs_one _) (by omega) (by omega) F0.out ?_; intro v1 wa hs1 hf1; rw [Nat.zero_add, List.nil_append] at hs1; obtain ⟨A1, c1', rfl, _⟩ := hs1.shape; have HS1 := zh hs1; have HF1 := zh hf1; have hca := HYW.out wa hf1; obtain ⟨hza, hzb⟩ := HZW.out wa hf1; clear hs1 hf1))
      all_goals (
       have HF8 := zh (HFX.out.trans HF1.out)
       have HS8 : Hid (Sl wa w.heap.size 3 1 (.slice A1 bl.length c1') bl.length (ivs bl)) := zh (HS1.out.less HFX.out.size)
       go_wp2_with fail
       exact zi (v := .tuple #[.slice A9 acc.length c9, .int .i64 0]) (by simp [results, Tryz.results113, go_sem]) rfl (by rw [HV1.out]; exact ⟨_, rfl, HSET.out wa A1 c1' bl HF8.out HS8.out⟩))
   ·have d3 : (be != 0) = true := by simpa using c2
    rw [zl c2] at HV1
    go_wp2_with fail
    exact zi (v := .tuple #[.slice none 0 0, .int .i64 be]) (by simp [results, Tryz.results113, go_sem]) rfl (by rw [HV1.out]; exact ⟨_, rfl, HST.out _ HF3.out⟩)
end
namespace QueueM
structure Wt where
 id : Int
 cls : Int
 many : Int
 time : Int
 score : Nat
def right (w : Wt) : Bool := decide (1 ≤ w.id ∧ w.id ≤ 28629151 ∧ 0 ≤ w.cls ∧ w.cls ≤ 7 ∧ 1 ≤ w.many ∧ w.many ≤ 600 ∧ 0 ≤ w.time ∧ w.time ≤ 1099511627776)
theorem right_iff (w : Wt) : right w = true ↔ (1 ≤ w.id ∧ w.id ≤ 28629151 ∧ 0 ≤ w.cls ∧ w.cls ≤ 7 ∧ 1 ≤ w.many ∧ w.many ≤ 600 ∧ 0 ≤ w.time ∧ w.time ≤ 1099511627776) := by simp [right]
def low : Int := -(FareM.mag 9218868437227405312 : Int) - 1
def wv (u : Nat) : Int := if FareM.nan u then low else FareM.worth u
theorem low_lt {u : Nat} (h : FareM.nan u = false) : low < FareM.worth u := by
 have hr : FareM.rung u ≤ 9218868437227405312 := by simpa [FareM.nan] using h
 have hm : FareM.mag (FareM.rung u) ≤ FareM.mag 9218868437227405312 := by
  rcases Nat.eq_or_lt_of_le hr with e | l
  ·rw [e]; exact zf _
  ·exact jA (FareM.mag_lt l)
 unfold low FareM.worth
 generalize FareM.mag (FareM.rung u) = a at hm
 generalize FareM.mag 9218868437227405312 = b at hm
 split <;> omega
theorem rank_eq (u v : Nat) : FareM.rank u v = FareM.sgnI (wv u) (wv v) := by
 unfold FareM.rank wv
 rcases zI (FareM.nan u) with hu | hu <;> rcases zI (FareM.nan v) with hv | hv
 ·rw [hu, hv]; simp [FareM.sgnI]
 ·have := low_lt hv
  rw [hu, hv]
  simp only [if_true, Bool.false_eq_true, if_false]
  unfold FareM.sgnI
  rw [zl this]
 ·have := low_lt hu
  rw [hu, hv]
  simp only [if_true, Bool.false_eq_true, if_false]
  unfold FareM.sgnI
  rw [zk (by omega), zl this]
 ·rw [hu, hv]; simp
def ord (a b : Wt) : Int := if FareM.rank b.score a.score ≠ 0 then FareM.rank b.score a.score else if FareM.sgnI a.time b.time ≠ 0 then FareM.sgnI a.time b.time else FareM.sgnI a.id b.id
def ahead (a b : Wt) : Bool := decide (ord a b < 0)
theorem ord_lt_iff (a b : Wt) : ord a b < 0 ↔ (wv b.score < wv a.score ∨ (wv b.score = wv a.score ∧ (a.time < b.time ∨ (a.time = b.time ∧ a.id < b.id)))) := by
 unfold ord
 rw [rank_eq]
 unfold FareM.sgnI
 generalize wv b.score = x
 generalize wv a.score = y
 split <;> (repeat' (first | omega | split at *))
theorem ahead_iff (a b : Wt) : ahead a b = true ↔ (wv b.score < wv a.score ∨ (wv b.score = wv a.score ∧ (a.time < b.time ∨ (a.time = b.time ∧ a.id < b.id)))) := by
 unfold ahead
 rw [decide_eq_true_iff, ord_lt_iff]
theorem ahead_trans {a b c : Wt} (h : ahead a b = true) (k : ahead b c = true) : ahead a c = true := by
 rw [ahead_iff] at *
 omega
theorem ahead_total {a b : Wt} (h : a.id ≠ b.id) (k : ahead a b = false) : ahead b a = true := by
 have k' : ¬ ahead a b = true := by rw [k]; simp
 rw [ahead_iff] at *
 omega
abbrev Sorted (l : List Wt) : Prop := l.Pairwise (fun a b => ahead a b = true)
def cnt (w : Wt) (l : List Wt) : Nat := (l.takeWhile (fun x => ahead x w)).length
theorem cnt_le (w : Wt) (l : List Wt) : cnt w l ≤ l.length := (List.takeWhile_sublist _).length_le
theorem cnt_cons (w x : Wt) (l : List Wt) : cnt w (x :: l) = if ahead x w = true then cnt w l + 1 else 0 := by
 unfold cnt
 rw [List.takeWhile_cons]
 split <;> rfl
theorem ahead_lt (w : Wt) : ∀ (l : List Wt) (k : Nat) (h : k < l.length), k < cnt w l → ahead l[k] w = true
 | x :: l, 0, _, hk => by
  rw [cnt_cons] at hk
  split at hk
  ·assumption
  ·omega
 | x :: l, k + 1, h, hk => by
  rw [cnt_cons] at hk
  split at hk
  ·rw [List.getElem_cons_succ]
   exact ahead_lt w l k (by simpa using h) (by omega)
  ·omega
theorem ahead_at (w : Wt) : ∀ (l : List Wt) (h : cnt w l < l.length), ahead l[cnt w l] w = false
 | x :: l, h => by
  rcases zI (ahead x w) with hx | hx
  ·have e : cnt w (x :: l) = cnt w l + 1 := by rw [cnt_cons, zl hx]
   have := ahead_at w l (by rw [e] at h; simpa using h)
   simp only [e, List.getElem_cons_succ]
   exact this
  ·have e : cnt w (x :: l) = 0 := by rw [cnt_cons, zk (by rw [hx]; simp)]
   simp only [e, List.getElem_cons_zero]
   exact hx
theorem ahead_pos {l : List Wt} (hs : Sorted l) (w : Wt) (k : Nat) (h : k < l.length) : ahead l[k] w = decide (k < cnt w l) := by
 by_cases hk : k < cnt w l
 ·rw [ahead_lt w l k h hk]; simp [hk]
 ·have hc : cnt w l < l.length := by omega
  have h0 := ahead_at w l hc
  rw [show decide (k < cnt w l) = false by simp; omega]
  rcases Nat.eq_or_lt_of_le (show cnt w l ≤ k by omega) with e | lt
  ·subst e; exact h0
  ·have h1 : ahead l[cnt w l] l[k] = true := List.pairwise_iff_getElem.1 hs _ _ hc h lt
   rcases zI (ahead l[k] w) with h2 | h2
   ·have := ahead_trans h1 h2
    rw [h0] at this; cases this
   ·exact h2
def ins (w : Wt) (l : List Wt) : List Wt := l.take (cnt w l) ++ w :: l.drop (cnt w l)
theorem ins_length (w : Wt) (l : List Wt) : (ins w l).length = l.length + 1 := by
 have := cnt_le w l
 simp [ins, zw, zN]; omega
theorem mem_ins {w x : Wt} {l : List Wt} : x ∈ ins w l ↔ x = w ∨ x ∈ l := by
 unfold ins
 conv => rhs; rw [← List.take_append_drop (cnt w l) l]
 simp only [zy, zU]
 constructor
 ·rintro (h | h | h)
  ·exact .inr (.inl h)
  ·exact .inl h
  ·exact .inr (.inr h)
 ·rintro (h | h | h)
  ·exact .inr (.inl h)
  ·exact .inl h
  ·exact .inr (.inr h)
theorem ins_sorted {w : Wt} {l : List Wt} (hs : Sorted l) (hid : ∀ x ∈ l, x.id ≠ w.id) : Sorted (ins w l) := by
 unfold Sorted ins
 rw [List.pairwise_append, List.pairwise_cons]
 refine ⟨hs.sublist (List.take_sublist _ _), ⟨?_, hs.sublist (List.drop_sublist _ _)⟩, ?_⟩
 ·intro x hx
  obtain ⟨k, hk, rfl⟩ := List.mem_iff_getElem.1 hx
  rw [List.getElem_drop]
  rw [zN] at hk
  have h1 := ahead_pos hs w (cnt w l + k) (by omega)
  rw [show decide (cnt w l + k < cnt w l) = false by simp] at h1
  exact ahead_total (hid _ (ze _)) h1
 ·intro x hx y hy
  have hw : ahead x w = true := by
   obtain ⟨k, hk, rfl⟩ := List.mem_iff_getElem.1 hx
   rw [List.getElem_take]
   rw [zw] at hk
   exact ahead_lt w l k (by omega) (by omega)
  rcases zU.1 hy with rfl | hy
  ·exact hw
  ·have := List.pairwise_append.1 (show List.Pairwise (fun a b => ahead a b = true) (l.take (cnt w l) ++ l.drop (cnt w l)) by rw [List.take_append_drop]; exact hs)
   exact this.2.2 x hx y hy
structure Good (l : List Wt) : Prop where
 sorted : Sorted l
 right : ∀ x ∈ l, right x = true
 once : (l.map (·.id)).Nodup
 few : l.length ≤ 200
theorem Good.nil : Good [] := ⟨List.Pairwise.nil, by simp, by simp, by simp⟩
def has (id : Int) (l : List Wt) : Bool := l.any (fun x => decide (x.id = id))
theorem has_iff {id : Int} {l : List Wt} : has id l = true ↔ ∃ x ∈ l, x.id = id := by simp [has]
def add (w : Wt) (l : List Wt) : Int × List Wt := if right w = true then (if has w.id l = true then (7, l) else if 200 ≤ l.length then (3, l) else (0, ins w l)) else (1, l)
theorem ins_ids (w : Wt) (l : List Wt) : ((ins w l).map (·.id)).Perm (w.id :: l.map (·.id)) := by
 unfold ins
 rw [zn, zW]
 refine List.perm_middle.trans ?_
 rw [← zn, List.take_append_drop]
theorem Good.add {l : List Wt} (h : Good l) (w : Wt) : Good (add w l).2 := by
 unfold QueueM.add
 split
 ·split
  ·exact h
  ·split
   ·exact h
   ·rename_i hr hh hf
    have hid : ∀ x ∈ l, x.id ≠ w.id := fun x hx e => hh (has_iff.2 ⟨x, hx, e⟩)
    refine ⟨ins_sorted h.sorted hid, ?_, ?_, by rw [ins_length]; omega⟩
    ·intro x hx
     rcases mem_ins.1 hx with rfl | hx
     ·exact hr
     ·exact h.right x hx
    ·rw [(ins_ids w l).nodup_iff, List.nodup_cons]
     refine ⟨fun hm => ?_, h.once⟩
     obtain ⟨x, hx, e⟩ := zQ.1 hm
     exact hid x hx e
 ·exact h
def place (id : Int) (l : List Wt) : Nat := l.findIdx (fun x => decide (x.id = id))
theorem place_lt {id : Int} {l : List Wt} : place id l < l.length ↔ has id l = true := by
 unfold place has
 rw [List.findIdx_lt_length, List.any_eq_true]
def del (id : Int) (l : List Wt) : List Wt := l.take (place id l) ++ l.drop (place id l + 1)
def remove (id : Int) (l : List Wt) : Int × List Wt := if has id l = true then (0, del id l) else (2, l)
theorem del_eq (id : Int) (l : List Wt) : del id l = l.eraseIdx (place id l) := by unfold del; rw [List.eraseIdx_eq_take_drop_succ]
theorem del_sub (id : Int) (l : List Wt) : List.Sublist (del id l) l := by rw [del_eq]; exact List.eraseIdx_sublist _ _
theorem Good.sub {l m : List Wt} (h : Good l) (hs : List.Sublist m l) : Good m :=
 ⟨h.sorted.sublist hs, fun x hx => h.right x (hs.subset hx), h.once.sublist (hs.map _), zp hs.length_le h.few⟩
theorem Good.remove {l : List Wt} (h : Good l) (id : Int) : Good (remove id l).2 := by
 unfold QueueM.remove
 split
 ·exact h.sub (del_sub id l)
 ·exact h
def room (left : List Int) (w : Wt) : Bool := decide (w.cls < left.length) && decide (w.many ≤ left.getD w.cls.toNat 0)
def first (left : List Int) (l : List Wt) : Option Wt := l.find? (room left)
end QueueM
section
open Go.RowKit
theorem ret_i64 {a b : Int} (h : a = b) : Ending.returned (.int .i64 a) = .returned (.int .i64 b) := by rw [h]
theorem f64_format : FloatKind.f64.format = Ieee.double := rfl
theorem isnan_eq (u : Nat) : (FloatKind.f64.format.order u u != some Ordering.eq) = FareM.nan u := by
 rw [f64_format]
 by_cases h : FareM.nan u = true
 ·rw [FareM.order_nan_left u h, h]; rfl
 ·have h : FareM.nan u = false := by simpa using h
  rw [FareM.order_eq h h, FareM.cmp_eq rfl, h]; rfl
theorem lt_eq {u v : Nat} (hu : FareM.nan u = false) (hv : FareM.nan v = false) : (FloatKind.f64.format.order u v == some Ordering.lt) = decide (FareM.worth u < FareM.worth v) := by
 rw [f64_format, FareM.order_eq hu hv]
 rcases Int.lt_trichotomy (FareM.worth u) (FareM.worth v) with h | h | h
 ·rw [FareM.cmp_lt h]; simp [h]
 ·rw [FareM.cmp_eq h, h]; simp
 ·rw [FareM.cmp_gt h]; simp; omega
theorem eq_eq {u v : Nat} (hu : FareM.nan u = false) (hv : FareM.nan v = false) : (FloatKind.f64.format.order u v == some Ordering.eq) = decide (FareM.worth u = FareM.worth v) := by
 rw [f64_format, FareM.order_eq hu hv]
 rcases Int.lt_trichotomy (FareM.worth u) (FareM.worth v) with h | h | h
 ·rw [FareM.cmp_lt h]; simp; omega
 ·rw [FareM.cmp_eq h, h]; simp
 ·rw [FareM.cmp_gt h]; simp; omega
theorem any_nan_left {u : Nat} (v : Nat) (o : Ordering) (hu : FareM.nan u = true) : (FloatKind.f64.format.order u v == some o) = false := by
 rw [f64_format, FareM.order_nan_left v hu]; rfl
theorem any_nan_right (u : Nat) {v : Nat} (o : Ordering) (hv : FareM.nan v = true) : (FloatKind.f64.format.order u v == some o) = false := by
 rw [f64_format, FareM.order_nan_right u hv]; rfl
theorem refRank_any (u v : Nat) (w : World) : Calls Tryz.prog 131 #[.float .f64 u, .float .f64 v] w fun e w' => e = .returned (.int .i64 (FareM.rank u v)) ∧ w' = w := by
 have n1 := isnan_eq u
 have n2 := isnan_eq v
 rcases zI (FareM.nan u) with hu | hu <;> rcases zI (FareM.nan v) with hv | hv
 ·rw [hu] at n1
  rw [hv] at n2
  have E := zh (show FareM.rank u v = 0 by simp [FareM.rank, hu, hv])
  clear hu hv
  go_in
  go_wp2
  go_ret
  exact ⟨ret_i64 E.out.symm, rfl⟩
 ·have l := any_nan_left v .eq hu
  rw [hu] at n1
  rw [hv] at n2
  have E := zh (show FareM.rank u v = -1 by simp [FareM.rank, hu, hv])
  clear hu hv
  go_in
  go_wp2
  go_ret
  exact ⟨ret_i64 E.out.symm, rfl⟩
 ·have l := any_nan_right u .eq hv
  have l2 := any_nan_right u .lt hv
  rw [hu] at n1
  rw [hv] at n2
  have E := zh (show FareM.rank u v = 1 by simp [FareM.rank, hu, hv])
  clear hu hv
  go_in
  go_wp2
  go_ret
  exact ⟨ret_i64 E.out.symm, rfl⟩
 ·have l := lt_eq hu hv
  have g := eq_eq hu hv
  rw [hu] at n1
  rw [hv] at n2
  have E := zh (show FareM.rank u v = FareM.sgnI (FareM.worth u) (FareM.worth v) by simp [FareM.rank, hu, hv])
  clear hu hv
  rcases Int.lt_trichotomy (FareM.worth u) (FareM.worth v) with h | h | h
  ·have E2 := zh (show FareM.rank u v = -1 by rw [E.out]; unfold FareM.sgnI; rw [zl h])
   have l1 : (FloatKind.f64.format.order u v == some Ordering.lt) = true := by rw [l]; simpa using h
   have g1 : (FloatKind.f64.format.order u v == some Ordering.eq) = false := by rw [g]; simp; omega
   clear h l g
   go_in
   go_wp2
   go_ret
   exact ⟨ret_i64 E2.out.symm, rfl⟩
  ·have E2 := zh (show FareM.rank u v = 0 by rw [E.out]; unfold FareM.sgnI; rw [zk (by omega), zk (by omega)])
   have l1 : (FloatKind.f64.format.order u v == some Ordering.lt) = false := by rw [l]; simp; omega
   have g1 : (FloatKind.f64.format.order u v == some Ordering.eq) = true := by rw [g]; simpa using h
   clear h l g
   go_in
   go_wp2
   go_ret
   exact ⟨ret_i64 E2.out.symm, rfl⟩
  ·have E2 := zh (show FareM.rank u v = 1 by rw [E.out]; unfold FareM.sgnI; rw [zk (by omega), zl h])
   have l1 : (FloatKind.f64.format.order u v == some Ordering.lt) = false := by rw [l]; simp; omega
   have g1 : (FloatKind.f64.format.order u v == some Ordering.eq) = false := by rw [g]; simp; omega
   clear h l g
   go_in
   go_wp2
   go_ret
   exact ⟨ret_i64 E2.out.symm, rfl⟩
end
section
open Go.RowKit QueueM
theorem ret_bool {a b : Bool} (h : a = b) : Ending.returned (.bool a) = .returned (.bool b) := by rw [h]
end
section
open Go.RowKit QueueM
attribute [local go_sem ↓] Go.wp_at_zero Go.wp_at_succ

end
section
open Go.RowKit QueueM
def wcells (x : Wt) : List Value := [.int .i64 x.id, .int .i64 x.cls, .int .i64 x.many, .int .i64 x.time, .float .f64 x.score]
def wagg (x : Wt) : Value := .agg #[.int .i64 x.id, .int .i64 x.cls, .int .i64 x.many, .int .i64 x.time, .float .f64 x.score]
theorem qB (l : List Wt) : (l.flatMap wcells).length = l.length * 5 := flatMap_len l (fun _ _ => rfl)
theorem jR (l : List Wt) : ∀ u ∈ l.flatMap wcells, u.oneCell' = true := by
 intro u hu
 obtain ⟨x, _, hx⟩ := List.mem_flatMap.1 hu
 simp only [wcells, zU, List.not_mem_nil, or_false] at hx
 rcases hx with rfl | rfl | rfl | rfl | rfl <;> rfl
theorem wcells_get : ∀ (l : List Wt) (i : Nat) (h : i < l.length) (j : Nat), j < 5 → (l.flatMap wcells)[i * 5 + j]? = (wcells l[i])[j]?
 | x :: l, 0, _, j, hj => by
  rw [zq, Nat.zero_mul, Nat.zero_add, List.getElem?_append_left (by exact hj)]
  rfl
 | x :: l, i + 1, h, j, hj => by
  rw [zq, List.getElem?_append_right (by show 5 ≤ _; omega), show (wcells x).length = 5 from rfl, show (i + 1) * 5 + j - 5 = i * 5 + j by omega]
  exact wcells_get l i (by simpa using h) j hj
theorem jQ : ∀ (l : List Wt) (k : Nat), (l.take k).flatMap wcells = (l.flatMap wcells).take (k * 5)
 | [], k => by simp
 | x :: l, 0 => by simp
 | x :: l, k + 1 => by
  have e : (k + 1) * 5 = (wcells x).length + k * 5 := by rw [show (wcells x).length = 5 from rfl]; omega
  rw [List.take_succ_cons, zq, zq, jQ l k, e, List.take_length_add_append]
theorem qC : ∀ (l : List Wt) (k : Nat), (l.drop k).flatMap wcells = (l.flatMap wcells).drop (k * 5)
 | [], k => by simp
 | x :: l, 0 => by simp
 | x :: l, k + 1 => by
  have e : (k + 1) * 5 = (wcells x).length + k * 5 := by rw [show (wcells x).length = 5 from rfl]; omega
  rw [List.drop_succ_cons, zq, qC l k, e, List.drop_length_add_append]
theorem wcells_ins (x : Wt) (l : List Wt) : (ins x l).flatMap wcells = (l.flatMap wcells).take (cnt x l * 5) ++ wcells x ++ (l.flatMap wcells).drop (cnt x l * 5) := by
 unfold ins
 rw [zV, zq, jQ, qC, List.append_assoc]
theorem wcells_del (id : Int) (l : List Wt) : (del id l).flatMap wcells = (l.flatMap wcells).take (place id l * 5) ++ (l.flatMap wcells).drop ((place id l + 1) * 5) := by
 unfold del
 rw [zV, jQ, qC]
def Five (w : World) (b o : Nat) (x : Wt) : Prop :=
 w.cell? ⟨b, o, none⟩ = some (.int .i64 x.id) ∧ w.cell? ⟨b, o + 1, none⟩ = some (.int .i64 x.cls) ∧ w.cell? ⟨b, o + 2, none⟩ = some (.int .i64 x.many) ∧ w.cell? ⟨b, o + 3, none⟩ = some (.int .i64 x.time) ∧ w.cell? ⟨b, o + 4, none⟩ = some (.float .f64 x.score)
theorem five_at {w : World} {B : Nat} {A : Option Addr} {l : List Wt} (h : Rd w B A (l.flatMap wcells)) {i : Nat} (hi : i < l.length) :
 ∃ b o, A = some ⟨b, o, none⟩ ∧ b < B ∧ Five w b (o + i * 5) l[i] := by
 have hne : l.flatMap wcells ≠ [] := fun e => by
  have := qB l
  rw [e] at this
  simp at this
  omega
 obtain ⟨b, o, hA, hb, hc⟩ := h hne
 have g := fun j (hj : j < 5) => wcells_get l i hi j hj
 refine ⟨b, o, hA, hb, ?_, ?_, ?_, ?_, ?_⟩
 ·exact hc _ _ (g 0 (by omega))
 ·rw [Nat.add_assoc]; exact hc _ _ (g 1 (by omega))
 ·rw [Nat.add_assoc]; exact hc _ _ (g 2 (by omega))
 ·rw [Nat.add_assoc]; exact hc _ _ (g 3 (by omega))
 ·rw [Nat.add_assoc]; exact hc _ _ (g 4 (by omega))
theorem Five.fresh {w w' : World} {b o : Nat} {x : Wt} (h : Five w b o x) (F : Fresh w w') : Five w' b o x := by
 have k : ∀ j u, w.cell? ⟨b, j, none⟩ = some u → w'.cell? ⟨b, j, none⟩ = some u := fun j u hu => (F.cell (World.block_lt_of_cell? _ _ hu) (fun f => f)).trans hu
 exact ⟨k _ _ h.1, k _ _ h.2.1, k _ _ h.2.2.1, k _ _ h.2.2.2.1, k _ _ h.2.2.2.2⟩
theorem five_blk {w : World} {b : Nat} {t : TypeId} {x : Wt} (h : Blk w b t (wcells x).toArray) : Five w b 0 x := ⟨h.cell 0, h.cell 1, h.cell 2, h.cell 3, h.cell 4⟩
theorem run_store_float {P : Program} (w : World) (a : Addr) (m : Mode) (k : FloatKind) (u : Nat) : (store a (.float k u) m).run P w = stored P w a (.float k u) m := run_store P w a _ m rfl
def plc (id : Int) (l : List Wt) : Int := if has id l = true then (place id l : Int) else -1
theorem plc_at {id : Int} {l : List Wt} {i : Nat} (h : i < l.length) (no : ∀ j (hj : j < l.length), j < i → l[j].id ≠ id) (yes : l[i].id = id) : plc id l = (i : Int) := by
 have e : place id l = i := by
  unfold place
  rw [List.findIdx_eq h]
  refine ⟨by simpa using yes, fun j hj => ?_⟩
  simpa using no j (by omega) hj
 unfold plc
 rw [zl (place_lt.1 (by rw [e]; exact h)), e]
theorem plc_none {id : Int} {l : List Wt} (no : ∀ j (hj : j < l.length), l[j].id ≠ id) : plc id l = -1 := by
 unfold plc
 rw [zk]
 intro h
 obtain ⟨x, hx, e⟩ := has_iff.1 h
 obtain ⟨j, hj, rfl⟩ := List.mem_iff_getElem.1 hx
 exact no j hj e
theorem plc_yes {id : Int} {l : List Wt} (h : has id l = true) : plc id l = (place id l : Int) ∧ place id l < l.length := ⟨by unfold plc; rw [zl h], place_lt.2 h⟩
theorem plc_no {id : Int} {l : List Wt} (h : has id l = false) : plc id l = -1 := by unfold plc; rw [h]; rfl

end
section
open Go.RowKit QueueM
attribute [local go_sem ↓] Go.wp_at_zero Go.wp_at_succ

end
section
open Go.RowKit
theorem Blk.has {w : World} {g : Nat} {t : TypeId} {cs : Array Value} (h : Blk w g t cs) {i : Nat} (hi : i < cs.size) : (w.cell? ⟨g, i, none⟩).isSome = true := by
 rw [h.cell]; simp [hi]
theorem Sl.mk' {w : World} {B e size n : Nat} {g o cap : Nat} {cur : Array Value} {xs : List Value} (hB : B ≤ g) (hb : Blk w g e cur) (hl : xs.length = n * size) (hn : n ≤ cap) (hm : cap ≤ maxLen) (hs : o + cap * size ≤ cur.size) (hc : ∀ j u, xs[j]? = some u → cur[o + j]? = some u) :
 Sl w B e size (.slice (some ⟨g, o, none⟩) n cap) n xs := ⟨hl, .inr ⟨g, o, cap, cur, rfl, hB, hb, hn, hm, hs, hc⟩⟩
section
variable {P : Program} (w : World)
end
end
section
open Go.RowKit QueueM
attribute [local go_sem ↓] Go.wp_at_zero Go.wp_at_succ




end
section
open Go.RowKit QueueM
attribute [local go_sem ↓] Go.wp_at_zero Go.wp_at_succ
attribute [local go_sem] run_store_float

end
section
open Go.RowKit QueueM
attribute [local go_sem] run_store_float
theorem del_length {id : Int} {l : List Wt} (h : place id l < l.length) : (del id l).length = l.length - 1 := by
 rw [del_eq, List.length_eraseIdx, zl h]
theorem info_a : (Tryz.prog.info? 175).map (fun i => (i.zero, i.size, i.bytes)) = some (some (.agg #[.int .i64 0, .int .i64 0, .int .i64 0, .int .i64 0, .float .f64 0]), 5, 40) := by kernel_rfl
end
end Go.Proofs.YtnmokpbomeamfaaGreat

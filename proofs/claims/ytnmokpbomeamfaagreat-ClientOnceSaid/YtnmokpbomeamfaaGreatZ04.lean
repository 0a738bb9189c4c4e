/- Proved here, for the statement ClientOnceSaid: laws that its walk leans on. It holds with no condition. (Put together and shortened by a program out of many texts: On15, On16, On17, FareMath, FareRound.) -/
import Derived.Test.YtnmokpbomeamfaaGreatZ03
set_option linter.unusedVariables false
set_option maxRecDepth 100000
set_option maxHeartbeats 64000000
namespace Go.Proofs.YtnmokpbomeamfaaGreat
section
open Go.RowKit
open Classical in
noncomputable def sellV (l s : List Int) (c m : Int) : Int := if NestM.Asked l s c ∧ 1 ≤ m ∧ m ≤ 10000 then (if m ≤ NestM.least l s c 0 then 0 else 3) else 1
theorem sellV_of {l s : List Int} {c m y : Int} (h : SellE l s c m y) : y = sellV l s c m := by
 unfold sellV
 rcases h with ⟨h1, h2, h3, h4, h5⟩ | ⟨h1, h2, h3, h4, h5⟩ | ⟨h1, h2⟩
 ·rw [zl ⟨h1, h2, h3⟩, zl h4]; exact h5
 ·rw [zl ⟨h1, h2, h3⟩, zk (by omega)]; exact h5
 ·rw [zk h1]; exact h2
def atF (ow : Int) : List Hd → Nat
 | [] => 0
 | h :: r => if h.ow < ow then atF ow r + 1 else 0
def atA (ow : Int) : List Ha → Nat
 | [] => 0
 | h :: r => if h.ow < ow then atA ow r + 1 else 0
theorem atA_eq (ow : Int) : ∀ hs : List Hd, atF ow hs = atA ow (hs.map Hd.abs)
 | [] => rfl
 | h :: r => by rw [zW, atF, atA, atA_eq ow r]; rfl
theorem atF_step {hs : List Hd} {i : Nat} (h : i < hs.length) (ow : Int) : atF ow (hs.drop i) = if hs[i].ow < ow then atF ow (hs.drop (i + 1)) + 1 else 0 := by
 rw [zK h, atF]
theorem atF_le (ow : Int) : ∀ hs : List Hd, atF ow hs ≤ hs.length
 | [] => by simp [atF]
 | h :: r => by
  have := atF_le ow r
  rw [atF]
  split <;> simp <;> omega
noncomputable def takeA (m : Fl) (ow cl mn : Int) : Int × Fl :=
 if ow < 1 ∨ 28629151 < ow then (1, m)
 else if 0 ≤ placeA ow m.hs 0 then (7, m)
 else if sellV m.lims (soldA m.lims.length m.hs) cl mn = 0 then (0, { m with hs := m.hs.take (atA ow m.hs) ++ [⟨ow, cl, mn, []⟩] ++ m.hs.drop (atA ow m.hs) })
 else (sellV m.lims (soldA m.lims.length m.hs) cl mn, m)
def FlM.hb (m : FlM) : Option Nat := (Value.slice m.HA m.hs.length m.hc).ownBlock
def StepF (w : World) (B f : Nat) (M : FlM) (m : Fl) (w' : World) : Prop := ∃ M' : FlM, M'.abs = m ∧ FlAt w' B f M' ∧ Frm (fun k => k = f ∨ M.hb = some k) w w' ∧ (M'.hb = M.hb ∨ ∀ k, M'.hb = some k → w.heap.size ≤ k)
theorem StepF.still {w w' : World} {B f : Nat} {m : FlM} (h : FlAt w B f m) (F : Fresh w w') : StepF w B f m m.abs w' := ⟨m, rfl, h.fresh F, F.frm, .inl rfl⟩
def TakePost (w : World) (B f : Nat) (M : FlM) (r : Int × Fl) (e : Ending) (w' : World) : Prop := e = .returned (.int .i64 r.1) ∧ StepF w B f M r.2 w'
def insH (hs : List Hd) (i : Nat) (x : Hd) : List Hd := hs.take i ++ [x] ++ hs.drop i
theorem insH_flat (hs : List Hd) (i : Nat) (x : Hd) : (insH hs i x).flatMap hcel = [] ++ (hs.take i).flatMap hcel ++ hcel x ++ (hs.drop i).flatMap hcel := by
 unfold insH; simp
theorem insH_len {hs : List Hd} {i : Nat} (x : Hd) (h : i ≤ hs.length) : (insH hs i x).length = 0 + i + 1 + (hs.length - i) := by
 unfold insH; simp; omega
theorem insH_abs (hs : List Hd) (i : Nat) (x : Hd) : (insH hs i x).map Hd.abs = (hs.map Hd.abs).take i ++ [x.abs] ++ (hs.map Hd.abs).drop i := by
 unfold insH; simp
theorem insH_mem {hs : List Hd} {i : Nat} {x y : Hd} (h : y ∈ insH hs i x) : y = x ∨ y ∈ hs := by
 unfold insH at h
 simp only [zy, zO] at h
 rcases h with (h | h) | h
 ·exact .inr (List.mem_of_mem_take h)
 ·exact .inl h
 ·exact .inr (List.mem_of_mem_drop h)
theorem take15_any (w : World) (B f : Nat) (m : FlM) (ow cl mn : Int) (h : FlAt w B f m) (hB : B ≤ w.heap.size) (hl : m.hs.length ≤ 1000) (hn : m.lims.length ≤ 8)
 (hb : ∀ x ∈ m.hs, 0 ≤ x.mn ∧ x.mn ≤ 1000000) (hc : ∀ x ∈ m.hs, 0 ≤ x.cl ∧ x.cl < (m.lims.length : Int)) :
 Calls Tryz.prog 106 #[.pointer (some ⟨f, 0, none⟩), .int .i64 ow, .int .i64 cl, .int .i64 mn] w fun e w' => TakePost w B f m (takeA m.abs ow cl mn) e w' := by
 obtain ⟨i0, hi, hz0, hz1, hz2⟩ := info_parts info_h
 have HFA := zh h
 have HPL : Hid (Calls Tryz.prog 100 #[.pointer (some ⟨f, 0, none⟩), .int .i64 ow] w fun e w' => e = .returned (.int .i64 (placeA ow m.abs.hs 0)) ∧ w' = w) := zh (by have e1 : placeF ow m.hs 0 = placeA ow m.abs.hs 0 := placeA_eq ow m.hs 0; rw [← e1]; exact place15_any w B f m ow h hl)
 obtain ⟨s, hs⟩ : ∃ s, s = soldF m.lims.length m.hs := ⟨_, rfl⟩
 have hsl : s.length = m.lims.length := by rw [hs, soldF_len]
 have HSO : Hid (∀ w', Fresh w w' → Calls Tryz.prog 86 #[.pointer (some ⟨f, 0, none⟩)] w' fun e w'' => OwnL w' s e w'') := zh fun w' F => by rw [hs]; exact sold15_any w' B f m (h.fresh F) hl hn hb hc
 have HSE : Hid (∀ w' A2 c2, Fresh w w' → Sl w' w.heap.size 3 1 (.slice A2 m.lims.length c2) m.lims.length (ivs s) → Calls Tryz.prog 120 #[.slice m.LA m.lims.length m.lc, .slice A2 m.lims.length c2, .int .i64 cl, .int .i64 mn] w' fun e w'' => ∃ v, e = .returned (.tuple #[v, .int .i64 (sellV m.lims s cl mn)]) ∧ Fresh w' w'') := zh fun w' A2 c2 F hsl2 => by
  obtain ⟨_, _, he, hle, hma, _⟩ := hsl2.shape
  injection he with _ _ he
  rw [← he] at hle hma
  have hx := refSell_any w' m.LA m.lc m.lims A2 c2 s cl mn (h.fresh F).lsl.rd hsl2.rd (by rw [hsl]; exact hle) hma
  rw [hsl] at hx
  refine hx.mono ?_
  rintro e w'' ⟨v, y, rfl, hy, f3, _⟩
  exact ⟨v, by rw [sellV_of hy], f3⟩
 have HTK : Hid (takeA m.abs ow cl mn = if ow < 1 ∨ 28629151 < ow then (1, m.abs)
  else if 0 ≤ placeA ow m.abs.hs 0 then (7, m.abs)
  else if sellV m.lims s cl mn = 0 then (0, { m.abs with hs := (insH m.hs (atF ow m.hs) ⟨ow, cl, mn, none, 0, []⟩).map Hd.abs })
  else (sellV m.lims s cl mn, m.abs)) := zh (by rw [insH_abs, atA_eq, hs, soldA_eq]; rfl)
 generalize hpl : placeA ow m.abs.hs 0 = pl at HPL HTK
 generalize hse : sellV m.lims s cl mn = se at HSE HTK
 have HY3 : Hid (∀ w', Fresh w w' → w'.cell? ⟨f, 3, none⟩ = some (.slice m.LA m.lims.length m.lc)) := zh fun w' F => (h.fresh F).blk.cell 3
 have HY4 : Hid (∀ w', Fresh w w' → w'.cell? ⟨f, 4, none⟩ = some (.slice m.HA m.hs.length m.hc)) := zh fun w' F => (h.fresh F).blk.cell 4
 have HFZ : Hid (∀ w', Fresh w w' → w'.frozen? ⟨f, 4, none⟩ = false) := zh fun w' F => (h.fresh F).blk.frozen 4
 have HR : Hid (∀ w', Fresh w w' → Rd w' w'.heap.size m.HA (m.hs.flatMap hcel)) := zh fun w' F => (h.fresh F).hsl.rd
 have HCU : Hid (∀ w', Fresh w w' → ∀ k, k ≤ m.hs.length → ∃ A1 A2, CutsAt Tryz.prog w' 150 4 m.HA m.hs.length m.hc k (m.hs.flatMap hcel) A1 A2) := zh fun w' F k hk => cuts_sl _ i0 Tryz.underlying150 hi hz1 (h.fresh F).hsl k hk
 have HST : Hid (∀ w', Fresh w w' → StepF w B f m m.abs w') := zh fun w' F => StepF.still h F
 have HSET : Hid (∀ (w1 : World) (A3 : Option Addr) (c3 : Nat) (hs' : List Hd), Fresh w w1 → (∀ x ∈ hs', x ∈ m.hs ∨ x = ⟨ow, cl, mn, none, 0, []⟩) → Sl w1 w.heap.size 167 4 (.slice A3 hs'.length c3) hs'.length (hs'.flatMap hcel) → StepF w B f m { m.abs with hs := hs'.map Hd.abs } (w1.setCell ⟨f, 4, none⟩ (.slice A3 hs'.length c3))) := zh fun w1 A3 c3 hs' F hm hs3 => by
  obtain ⟨k1, k2⟩ := FlAt.setH (h.fresh F) F (hs3.less hB) (fun x hx => by
   rcases hm x hx with h' | rfl
   ·exact (h.fresh F).ssl x h'
   ·exact Sl.nil _ _ _ _)
  exact ⟨_, rfl, k1, k2.mono (fun _ _ e => .inl e), .inr (fun k hk => (hs3.lt k hk).1)⟩
 generalize m.abs = ma at HTK HST HSET ⊢
 obtain ⟨hh, hhh⟩ : ∃ x, x = m.hs := ⟨_, rfl⟩
 rw [← hhh] at HY4 HR HCU HSET HTK hl
 obtain ⟨nl, hnl⟩ : ∃ x, x = m.lims.length := ⟨_, rfl⟩
 rw [← hnl] at HY3 HSE hsl hn
 generalize m.HA = HA at HY4 HR HCU
 generalize m.hc = hcap at HY4 HCU
 generalize m.LA = LA at HY3 HSE
 generalize m.lc = lc at HY3 HSE
 have hfl : f < w.heap.size := h.blk.lt
 clear hs hb hc hpl hse h HFA hhh hnl
 by_cases c0 : ow < 1
 ·have d0 : decide (ow < 1) = true := zc c0
  have HV : Hid (takeA ma ow cl mn = (1, ma)) := zh (by rw [HTK.out, zl (.inl c0)])
  go_in
  go_wp2_with fail
  go_ret
  exact ⟨by rw [HV.out]; rfl, by rw [HV.out]; exact HST.out _ (za _ _)⟩
 ·have d0 : decide (ow < 1) = false := zb c0
  by_cases c1 : 28629151 < ow
  ·have d1 : decide (28629151 < ow) = true := zc c1
   have HV : Hid (takeA ma ow cl mn = (1, ma)) := zh (by rw [HTK.out, zl (.inr c1)])
   go_in
   go_wp2_with fail
   go_ret
   exact ⟨by rw [HV.out]; rfl, by rw [HV.out]; exact HST.out _ (za _ _)⟩
  ·have d1 : decide (28629151 < ow) = false := zb c1
   rw [zk (by omega : ¬ (ow < 1 ∨ 28629151 < ow))] at HTK
   by_cases c2 : 0 ≤ pl
   ·have d2 : decide (0 ≤ pl) = true := zc c2
    have HV : Hid (takeA ma ow cl mn = (7, ma)) := zh (by rw [HTK.out, zl c2])
    go_in
    go_wp2_with fail
    refine HPL.out.mono ?_
    rintro e w1 ⟨rfl, hw1⟩
    rw [hw1]
    clear hw1 w1
    go_wp2_with fail
    go_ret
    exact ⟨by rw [HV.out]; rfl, by rw [HV.out]; exact HST.out _ (za _ _)⟩
   ·have d2 : decide (0 ≤ pl) = false := zb c2
    rw [zk c2] at HTK
    have HS1 := zh (HSO.out w.drew (za _ _).drew)
    have z3 := HY3.out w.drew (za _ _).drew
    have HZ : Hid (∀ w', Fresh w.drew w' → w'.cell? ⟨f, 3, none⟩ = some (.slice LA nl lc)) := zh fun w' F => HY3.out w' ((za _ _).drew.trans F)
    have HLL : Hid (∀ w2 A2 c2, Fresh w.drew w2 → Sl w2 w.drew.heap.size 3 1 (.slice A2 nl c2) nl (ivs s) → Calls Tryz.prog 120 #[.slice LA nl lc, .slice A2 nl c2, .int .i64 cl, .int .i64 mn] w2 fun e w'' => ∃ v, e = .returned (.tuple #[v, .int .i64 se]) ∧ Fresh w2 w'') := zh fun w2 A2 c2 F hs2 => HSE.out w2 A2 c2 ((za _ _).drew.trans F) hs2
    go_in
    go_wp2_with fail
    refine HPL.out.mono ?_
    rintro e w1 ⟨rfl, hw1⟩
    rw [hw1]
    clear hw1 w1
    go_wp2_with fail
    go_region_held3 (fun w' => w'.cell? ⟨f, 3, none⟩ = some (.slice LA nl lc)) (first | exact z3 | exact HZ.out _ HF2.out | exact HZ.out _ (HF2.out.trans HF3.out))
     (first
      | (go_at_call 86; show Calls _ _ #[_] w.drew _; refine HS1.out.mono ?_; rintro e w2 ⟨v2, rfl, s2, f2⟩; rw [hsl] at s2; obtain ⟨A2, c2, rfl, _⟩ := s2.shape; have HS2 := zh s2; have HF2 := zh f2; clear f2 s2)
      | (go_at_call 120; show Calls _ _ #[_, _, _, _] w2 _; refine (HLL.out w2 _ _ HF2.out HS2.out).mono ?_; rintro e w3 ⟨v3, rfl, f3⟩; have HF3 := zh f3; clear f3))
    have HF4 := zh (((za (fun _ => False) w).drew.trans HF2.out).trans HF3.out)
    clear HZ HLL HS1 z3
    by_cases c3 : se = 0
    ·subst c3
     rw [zl rfl] at HTK
     have HAL := zh (atF_le ow hh)
     have y4 := HY4.out w3 HF4.out
     go_wp2_with fail
     go_loopw [11] (fun v11 wr => ∃ i : Nat, i ≤ hh.length ∧ v11 = .int .i64 (i : Int) ∧ atF ow hh = i + atF ow (hh.drop i) ∧ wr = w3) (fun v11 _ => hh.length - (intOf v11).toNat)
     case atStart => exact ⟨0, by omega, rfl, by simp, rfl⟩
     case round =>
      obtain ⟨i, hil, rfl, hat, rfl⟩ := hrel
      have hi0 : (0 : Int) ≤ (i : Int) := by omega
      have HAT := zh hat
      clear hat
      by_cases hgo : ∃ hlt : i < hh.length, hh[i].ow < ow
      ·obtain ⟨hlt, hlo⟩ := hgo
       have hlti : decide ((i : Int) < (hh.length : Int)) = true := zc (by omega)
       obtain ⟨b, o, rfl, _, c0, _, _, _⟩ := hold_at (HR.out wr HF4.out) hlt
       have HN : Hid (atF ow hh = (i + 1) + atF ow (hh.drop (i + 1))) := zh (by have := HAT.out; rw [atF_step hlt, zl hlo] at this; omega)
       generalize hh[i].ow = x at c0 hlo
       have d4 : decide (x < ow) = true := zc hlo
       go_wp2_with fail
       go_roundw
       case rel => exact ⟨i + 1, by omega, by go_num, HN.out, by first | rfl | trivial⟩
       case measure => simp [intOf]; omega
      ·have hat2 : atF ow hh = i := by
        have := HAT.out
        by_cases hlt : i < hh.length
        ·rw [atF_step hlt, zk (fun h => hgo ⟨hlt, h⟩)] at this; omega
        ·rw [List.drop_eq_nil_of_le (by omega)] at this; simp [atF] at this; exact this
       rw [hat2] at HTK
       obtain ⟨A1, A2', hcut⟩ := HCU.out wr HF4.out i hil
       obtain ⟨q1, q2, q3, q4⟩ := hcut
       rw [flat_take4 hcel 4 (fun _ => rfl)] at q3
       rw [flat_drop4 hcel 4 (fun _ => rfl)] at q4
       have RT := zh (q3.alloc (zf _) (.cells #[] 167))
       have RD : Hid (∀ w', Fresh wr w' → Rd w' wr.heap.size A2' ((hh.drop i).flatMap hcel)) := zh fun w' F => q4.fresh (zf _) F
       have S0 := zh (nil_sl wr 167 4)
       have HL1 : Hid (((hh.take i).flatMap hcel).length = i * 4) := zh (by rw [hcel_len, zw, Nat.min_eq_left hil])
       have HL2 : Hid (((hh.drop i).flatMap hcel).length = (hh.length - i) * 4) := zh (by rw [hcel_len, zN])
       have HE0 := zh (jC wr (.cells #[] 167))
       have HYA : Hid (∀ w', Fresh wr w' → w'.cell? ⟨f, 4, none⟩ = some (.slice HA hh.length hcap)) := zh fun w' F => HY4.out w' (HF4.out.trans F)
       have y5 := HYA.out (wr.alloc (.cells #[] 167)) (jC _ _)
       have HZA : Hid (∀ w', Fresh wr w' → w'.frozen? ⟨f, 4, none⟩ = false) := zh fun w' F => HFZ.out w' (HF4.out.trans F)
       have HX1 : Hid (∀ u ∈ hcel ⟨ow, cl, mn, none, 0, []⟩, u.oneCell' = true) := zh (by have := hcel_one [⟨ow, cl, mn, none, 0, []⟩]; simpa using this)
       obtain ⟨l8, hl8⟩ : ∃ x, x = insH hh i ⟨ow, cl, mn, none, 0, []⟩ := ⟨_, rfl⟩
       have HIN : Hid (0 + i + 1 + (hh.length - i) = l8.length) := zh (by rw [hl8, insH_len _ hil])
       have HIF : Hid ([] ++ (hh.take i).flatMap hcel ++ hcel ⟨ow, cl, mn, none, 0, []⟩ ++ (hh.drop i).flatMap hcel = l8.flatMap hcel) := zh (by rw [hl8, insH_flat])
       have HIM : Hid (∀ y ∈ l8, y ∈ hh ∨ y = ⟨ow, cl, mn, none, 0, []⟩) := zh fun y hy => (insH_mem (by rw [hl8] at hy; exact hy)).symm
       rw [← hl8] at HTK
       clear hl8
       clear q3 q4
       have hdec : (∃ hlt : i < hh.length, ¬ hh[i].ow < ow) ∨ i = hh.length := by
        by_cases hlt : i < hh.length
        ·exact .inl ⟨hlt, fun h => hgo ⟨hlt, h⟩⟩
        ·exact .inr (by omega)
       clear hgo
       rcases hdec with ⟨hlt, hlo⟩ | hend
       ·have hlti : decide ((i : Int) < (hh.length : Int)) = true := zc (by omega)
        obtain ⟨b, o, hAe, _, c0, _, _, _⟩ := hold_at (HR.out wr HF4.out) hlt
        subst hAe
        generalize hh[i].ow = x at c0 hlo
        have d4 : decide (x < ow) = false := zb hlo
        go_wp2_with (first
         | (at_builtin; refine jK (by rfl) (.tmp 59) (.tmp 65) _ rfl wr 167 i0 _ 4 48 Tryz.underlying150 hi hz0 hz1 hz2 rfl (by omega) _ 0 [] rfl S0.out _ _ i _ _ rfl HL1.out RT.out (hcel_one _) (by omega) (by omega) HE0.out ?_; intro v6 x6 hs6 hf6; have HS6 := zh (hs6.alloc (.cells (hcel ⟨ow, cl, mn, none, 0, []⟩).toArray 167)); have HR6 := zh (jL x6 (hcel ⟨ow, cl, mn, none, 0, []⟩) 167); have HF6 := zh (hf6.alloc (.cells (hcel ⟨ow, cl, mn, none, 0, []⟩).toArray 167)); clear hs6 hf6)
         | (at_builtin; refine jK (by rfl) (.tmp 67) (.tmp 72) _ rfl wr 167 i0 _ 4 48 Tryz.underlying150 hi hz0 hz1 hz2 rfl (by omega) v6 (0 + i) _ rfl HS6.out _ (some ⟨x6.heap.size, 0, none⟩) 1 1 _ rfl (by rfl) HR6.out HX1.out (by omega) (by omega) HF6.out ?_; intro v7 x7 hs7 hf7; have HS7 := zh hs7; have HF7 := zh hf7; have y7 := HYA.out x7 hf7; clear hs7 hf7)
         | (at_builtin; refine jK (by rfl) (.tmp 75) (.tmp 81) _ rfl wr 167 i0 _ 4 48 Tryz.underlying150 hi hz0 hz1 hz2 rfl (by omega) v7 (0 + i + 1) _ rfl HS7.out _ A2' (hh.length - i) _ _ rfl HL2.out (RD.out x7 HF7.out) (hcel_one _) (by omega) (by omega) HF7.out ?_; intro v8 x8 hs8 hf8; rw [HIN.out, HIF.out] at hs8; obtain ⟨A8, c8, rfl, _⟩ := hs8.shape; have HF8 := zh hf8; have HS8 := zh hs8; have y8 := HYA.out x8 hf8; have z8 := HZA.out x8 hf8; clear hs8 hf8))
        go_ret
        exact ⟨by rw [HTK.out]; rfl, by rw [HTK.out]; exact HSET.out x8 A8 c8 l8 (HF4.out.trans HF8.out) HIM.out (HS8.out.less HF4.out.size)⟩
       ·have hlti : decide ((i : Int) < (hh.length : Int)) = false := zb (by omega)
        have hltn : decide (i < hh.length) = false := zb (by omega)
        have hltz : ¬ (i : Int) < (hh.length : Int) := by omega
        clear hend
        go_wp2_with (first
         | (at_builtin; refine jK (by rfl) (.tmp 59) (.tmp 65) _ rfl wr 167 i0 _ 4 48 Tryz.underlying150 hi hz0 hz1 hz2 rfl (by omega) _ 0 [] rfl S0.out _ _ i _ _ rfl HL1.out RT.out (hcel_one _) (by omega) (by omega) HE0.out ?_; intro v6 x6 hs6 hf6; have HS6 := zh (hs6.alloc (.cells (hcel ⟨ow, cl, mn, none, 0, []⟩).toArray 167)); have HR6 := zh (jL x6 (hcel ⟨ow, cl, mn, none, 0, []⟩) 167); have HF6 := zh (hf6.alloc (.cells (hcel ⟨ow, cl, mn, none, 0, []⟩).toArray 167)); clear hs6 hf6)
         | (at_builtin; refine jK (by rfl) (.tmp 67) (.tmp 72) _ rfl wr 167 i0 _ 4 48 Tryz.underlying150 hi hz0 hz1 hz2 rfl (by omega) v6 (0 + i) _ rfl HS6.out _ (some ⟨x6.heap.size, 0, none⟩) 1 1 _ rfl (by rfl) HR6.out HX1.out (by omega) (by omega) HF6.out ?_; intro v7 x7 hs7 hf7; have HS7 := zh hs7; have HF7 := zh hf7; have y7 := HYA.out x7 hf7; clear hs7 hf7)
         | (at_builtin; refine jK (by rfl) (.tmp 75) (.tmp 81) _ rfl wr 167 i0 _ 4 48 Tryz.underlying150 hi hz0 hz1 hz2 rfl (by omega) v7 (0 + i + 1) _ rfl HS7.out _ A2' (hh.length - i) _ _ rfl HL2.out (RD.out x7 HF7.out) (hcel_one _) (by omega) (by omega) HF7.out ?_; intro v8 x8 hs8 hf8; rw [HIN.out, HIF.out] at hs8; obtain ⟨A8, c8, rfl, _⟩ := hs8.shape; have HF8 := zh hf8; have HS8 := zh hs8; have y8 := HYA.out x8 hf8; have z8 := HZA.out x8 hf8; clear hs8 hf8))
        go_ret
        exact ⟨by rw [HTK.out]; rfl, by rw [HTK.out]; exact HSET.out x8 A8 c8 l8 (HF4.out.trans HF8.out) HIM.out (HS8.out.less HF4.out.size)⟩
    ·have d3 : (se != 0) = true := by simpa using c3
     have HV : Hid (takeA ma ow cl mn = (se, ma)) := zh (by rw [HTK.out, zk c3])
     go_wp2_with fail
     go_ret
     exact ⟨by rw [HV.out]; rfl, by rw [HV.out]; exact HST.out _ HF4.out⟩
def cutAt {α : Type} (l : List α) (k : Nat) : List α := l.take k ++ l.drop (k + 1)
theorem cutAt_map {α β : Type} (g : α → β) (l : List α) (k : Nat) : (cutAt l k).map g = cutAt (l.map g) k := by unfold cutAt; simp
theorem cutAt_mem {α : Type} {l : List α} {k : Nat} {x : α} (h : x ∈ cutAt l k) : x ∈ l := by
 unfold cutAt at h
 rcases zy.1 h with h | h
 ·exact List.mem_of_mem_take h
 ·exact List.mem_of_mem_drop h
theorem cutAt_len {α : Type} {l : List α} {k : Nat} (h : k < l.length) : 0 + k + (l.length - (k + 1)) = (cutAt l k).length := by
 unfold cutAt; simp; omega
theorem cutAt_flat {α : Type} (f : α → List Value) (l : List α) (k : Nat) : [] ++ (l.take k).flatMap f ++ (l.drop (k + 1)).flatMap f = (cutAt l k).flatMap f := by
 unfold cutAt; simp
def giveA (m : Fl) (ow : Int) : Int × Fl :=
 if placeA ow m.hs 0 < 0 then (2, m) else (0, { m with hs := cutAt m.hs (placeA ow m.hs 0).toNat })
theorem give15_any (w : World) (B f : Nat) (m : FlM) (ow : Int) (h : FlAt w B f m) (hB : B ≤ w.heap.size) (hl : m.hs.length ≤ 1000) :
 Calls Tryz.prog 109 #[.pointer (some ⟨f, 0, none⟩), .int .i64 ow] w fun e w' => TakePost w B f m (giveA m.abs ow) e w' := by
 obtain ⟨i0, hi, hz0, hz1, hz2⟩ := info_parts info_h
 have HPL : Hid (Calls Tryz.prog 100 #[.pointer (some ⟨f, 0, none⟩), .int .i64 ow] w fun e w' => e = .returned (.int .i64 (placeA ow m.abs.hs 0)) ∧ w' = w) := zh (by have e1 : placeF ow m.hs 0 = placeA ow m.abs.hs 0 := placeA_eq ow m.hs 0; rw [← e1]; exact place15_any w B f m ow h hl)
 have HTK : Hid (giveA m.abs ow = if placeA ow m.abs.hs 0 < 0 then (2, m.abs) else (0, { m.abs with hs := (cutAt m.hs (placeA ow m.abs.hs 0).toNat).map Hd.abs })) := zh (by rw [cutAt_map]; rfl)
 have hpc : placeA ow m.abs.hs 0 = -1 ∨ ∃ k : Nat, k < m.hs.length ∧ placeA ow m.abs.hs 0 = (k : Int) := by
  rcases placeA_cases ow m.abs.hs 0 with h | ⟨k, h1, h2⟩
  ·exact .inl h
  ·exact .inr ⟨k, by simpa [FlM.abs] using h1, by simpa using h2⟩
 generalize placeA ow m.abs.hs 0 = pl at HPL HTK hpc
 have HY4 : Hid (∀ w', Fresh w w' → w'.cell? ⟨f, 4, none⟩ = some (.slice m.HA m.hs.length m.hc)) := zh fun w' F => (h.fresh F).blk.cell 4
 have HFZ : Hid (∀ w', Fresh w w' → w'.frozen? ⟨f, 4, none⟩ = false) := zh fun w' F => (h.fresh F).blk.frozen 4
 have HST : Hid (∀ w', Fresh w w' → StepF w B f m m.abs w') := zh fun w' F => StepF.still h F
 have HSET : Hid (∀ (w1 : World) (A3 : Option Addr) (c3 : Nat) (hs' : List Hd), Fresh w w1 → (∀ x ∈ hs', x ∈ m.hs) → Sl w1 w.heap.size 167 4 (.slice A3 hs'.length c3) hs'.length (hs'.flatMap hcel) → StepF w B f m { m.abs with hs := hs'.map Hd.abs } (w1.setCell ⟨f, 4, none⟩ (.slice A3 hs'.length c3))) := zh fun w1 A3 c3 hs' F hm hs3 => by
  obtain ⟨k1, k2⟩ := FlAt.setH (h.fresh F) F (hs3.less hB) (fun x hx => (h.fresh F).ssl x (hm x hx))
  exact ⟨_, rfl, k1, k2.mono (fun _ _ e => .inl e), .inr (fun k hk => (hs3.lt k hk).1)⟩
 have HCU : Hid (∀ k, k ≤ m.hs.length → ∃ A1 A2, CutsAt Tryz.prog w 150 4 m.HA m.hs.length m.hc k (m.hs.flatMap hcel) A1 A2) := zh fun k hk => cuts_sl _ i0 Tryz.underlying150 hi hz1 h.hsl k hk
 have hfl : f < w.heap.size := h.blk.lt
 generalize m.abs = ma at HTK HST HSET ⊢
 generalize m.hs = hh at HY4 HCU HSET HTK hl hpc
 generalize m.HA = HA at HY4 HCU
 generalize m.hc = hcap at HY4 HCU
 clear h
 rcases hpc with rfl | ⟨p, hp, rfl⟩
 ·rw [zl (by omega)] at HTK
  go_in
  go_wp2_with fail
  refine HPL.out.mono ?_
  rintro e w1 ⟨rfl, hw1⟩
  rw [hw1]
  clear hw1 w1
  go_wp2_with fail
  go_ret
  exact ⟨by rw [HTK.out]; rfl, by rw [HTK.out]; exact HST.out _ (za _ _)⟩
 ·rw [zk (by omega), zx] at HTK
  obtain ⟨A1, _, q1, _, q3, _⟩ := HCU.out p (by omega)
  obtain ⟨_, A2, _, q2, _, q4⟩ := HCU.out (p + 1) (by omega)
  rw [Int.natCast_succ] at q2
  rw [flat_take4 hcel 4 (fun _ => rfl)] at q3
  rw [flat_drop4 hcel 4 (fun _ => rfl)] at q4
  have d0 : decide ((p : Int) < 0) = false := zb (by omega)
  have p0 : ¬ (p : Int) < 0 := by omega
  have q7 : IntKind.i64.wrap ((p : Int) + 1) = (p : Int) + 1 := zm _ (by omega)
  have HL1 : Hid (((hh.take p).flatMap hcel).length = p * 4) := zh (by rw [hcel_len, zw, Nat.min_eq_left (by omega)])
  have HL2 : Hid (((hh.drop (p + 1)).flatMap hcel).length = (hh.length - (p + 1)) * 4) := zh (by rw [hcel_len, zN])
  obtain ⟨l8, hl8⟩ : ∃ x, x = cutAt hh p := ⟨_, rfl⟩
  have HIN : Hid (0 + p + (hh.length - (p + 1)) = l8.length) := zh (by rw [hl8, cutAt_len hp])
  have HIF : Hid ([] ++ (hh.take p).flatMap hcel ++ (hh.drop (p + 1)).flatMap hcel = l8.flatMap hcel) := zh (by rw [hl8, cutAt_flat])
  have HIM : Hid (∀ y ∈ l8, y ∈ hh) := zh fun y hy => cutAt_mem (by rw [hl8] at hy; exact hy)
  rw [← hl8] at HTK
  clear hl8
  have S0 : Hid (Sl (w.alloc (.cells #[] 167)).drew w.heap.size 167 4 (.slice (some ⟨w.heap.size, 0, none⟩) 0 0) 0 []) := zh (nil_sl w _ 4)
  have F0 : Hid (Fresh w (w.alloc (.cells #[] 167)).drew) := zh ((jC w _).drew)
  have hc0 : w.drew.cell? ⟨f, 4, none⟩ = some (.slice HA hh.length hcap) := HY4.out _ (za _ _).drew
  have hc1 := HY4.out _ F0.out
  have RT : Hid (Rd (w.alloc (.cells #[] 167)).drew w.heap.size A1 ((hh.take p).flatMap hcel)) := zh ((q3.alloc (zf _) _).drew)
  have RD : Hid (∀ w', Fresh w w' → Rd w' w.heap.size A2 ((hh.drop (p + 1)).flatMap hcel)) := zh fun w' F => q4.fresh (zf _) F
  clear q3 q4
  go_in
  go_wp2_with fail
  refine HPL.out.mono ?_
  rintro e w1 ⟨rfl, hw1⟩
  rw [hw1]
  clear hw1 w1
  go_wp2_with fail
  go_region_law (first
   | (refine step_app (by rfl) (.tmp 12) (.tmp 18) _ (by rfl) w 167 i0 _ 4 48 Tryz.underlying150 hi hz0 hz1 hz2 rfl (by omega) (.slice (some ⟨w.heap.size, 0, none⟩) 0 0) 0 [] (by simp [Act.eval, Act.put]) S0.out w.heap.size A1 p hcap ((hh.take p).flatMap hcel) (by simp [Act.eval, Act.put]) HL1.out RT.out (hcel_one _) (by omega) (by omega) F0.out ?_; intro v1 wa hs1 hf1; have HS1 := zh hs1; have HF1 := zh hf1; have hca := HY4.out wa hf1; clear hs1 hf1)
   | (refine step_app (by rfl) (.tmp 19) (.tmp 26) _ (by rfl) w 167 i0 _ 4 48 Tryz.underlying150 hi hz0 hz1 hz2 rfl (by omega) v1 (0 + p) _ (by simp [Act.eval, Act.put]) HS1.out w.heap.size A2 (hh.length - (p + 1)) (hcap - (p + 1)) ((hh.drop (p + 1)).flatMap hcel) (by simp [Act.eval, Act.put]) HL2.out (RD.out wa HF1.out) (hcel_one _) (by omega) (by omega) HF1.out ?_; intro v3 wc hs3 hf3; rw [HIN.out, HIF.out] at hs3; obtain ⟨A3, c3, rfl, _⟩ := hs3.shape; have HS3 := zh hs3; have HF3 := zh hf3; have hcc := HY4.out wc hf3; have hzc := HFZ.out wc hf3; clear hs3 hf3))
  all_goals (
   go_wp2_with fail
   go_ret
   exact ⟨by rw [HTK.out]; rfl, by rw [HTK.out]; exact HSET.out wc A3 c3 l8 HF3.out HIM.out HS3.out⟩)
structure FlOk (m : Fl) : Prop where
 right : jU m.rows m.gs = true
 num : 1 ≤ m.num ∧ m.num ≤ 9999
 few : 1 ≤ m.lims.length ∧ m.lims.length ≤ 8
 top : NestM.at_ m.lims 0 ≤ 600
 hold : ∀ h ∈ m.hs, (0 ≤ h.cl ∧ h.cl < (m.lims.length : Int)) ∧ (1 ≤ h.mn ∧ h.mn ≤ 600) ∧ (h.st.length : Int) ≤ h.mn ∧ ∀ n ∈ h.st, 0 ≤ n ∧ n < qJ m.rows m.gs
theorem FlOk.at_ {M : FlM} (h : FlOk M.abs) : ∀ x ∈ M.hs, (0 ≤ x.cl ∧ x.cl < (M.lims.length : Int)) ∧ (1 ≤ x.mn ∧ x.mn ≤ 600) ∧ (x.st.length : Int) ≤ x.mn ∧ ∀ n ∈ x.st, 0 ≤ n ∧ n < qJ M.rows M.gs :=
 fun x hx => h.hold x.abs (by unfold FlM.abs; exact zQ.2 ⟨x, hx, rfl⟩)
theorem FlOk.mn {M : FlM} (h : FlOk M.abs) : ∀ x ∈ M.hs, 0 ≤ x.mn ∧ x.mn ≤ 1000000 := fun x hx => by have := (h.at_ x hx).2.1; omega
theorem FlOk.cl {M : FlM} (h : FlOk M.abs) : ∀ x ∈ M.hs, 0 ≤ x.cl ∧ x.cl < (M.lims.length : Int) := fun x hx => (h.at_ x hx).1
theorem FlOk.small {M : FlM} (h : FlOk M.abs) : small M.gs := by
 obtain ⟨_, h2, h3, _⟩ := rightL_of h.right
 have h2' : M.gs.length ≤ 4 := h2.2
 exact ⟨by omega, fun g hg => by have := h3 g hg; omega⟩
theorem FlOk.count {M : FlM} (h : FlOk M.abs) : ∃ a ct : Nat, M.gs.sum = (a : Int) ∧ qJ M.rows M.gs = (ct : Int) ∧ ct ≤ 600 ∧ a ≤ 10 := by
 obtain ⟨⟨r1, r2⟩, h2, h3, h4⟩ := rightL_of h.right
 have h0 := (sum_small M.gs h.small.2).1
 have r1' : 1 ≤ M.rows := r1
 have r2' : M.rows ≤ 60 := r2
 have h4' : M.gs.sum ≤ 10 := h4
 have hc : qJ M.rows M.gs = M.rows * M.gs.sum := by unfold qJ; exact zl h.right
 have hb : M.rows * M.gs.sum ≤ 60 * 10 := Int.mul_le_mul r2' h4' h0 (by omega)
 have hn : 0 ≤ M.rows * M.gs.sum := Int.mul_nonneg (by omega) h0
 refine ⟨M.gs.sum.toNat, (qJ M.rows M.gs).toNat, by omega, by rw [hc]; omega, by rw [hc]; omega, by omega⟩
abbrev svs (l : List (List UInt8)) : List Value := l.map (fun b => Value.string (str b))
theorem info_str : (Tryz.prog.info? 9).map (fun i => (i.zero, i.size, i.bytes)) = some (some (.string ⟨#[]⟩), 1, 16) := by kernel_rfl
def OwnS (w : World) (l : List (List UInt8)) (e : Ending) (w' : World) : Prop := ∃ v, e = .returned v ∧ Sl w' w.heap.size 9 1 v l.length (svs l) ∧ Fresh w w'
theorem snoc_ss {x : World} {B : Nat} {v : Value} {l : List (List UInt8)} {y : List UInt8} (h : Sl x B 9 1 v (l.length + 1) (svs l ++ [.string (str y)])) : Sl x B 9 1 v (l ++ [y]).length (svs (l ++ [y])) := by
 rw [zg, List.length_singleton, show svs (l ++ [y]) = svs l ++ [.string (str y)] by simp [svs]]
 exact h
def namesA (a : Nat) (st : List Int) : List (List UInt8) := st.map (fun n => nameOf a n.toNat)
theorem namesA_step {a : Nat} {st : List Int} {k : Nat} (h : k < st.length) : namesA a (st.take (k + 1)) = namesA a (st.take k) ++ [nameOf a st[k].toNat] := by
 unfold namesA
 rw [zu h, zn]
 rfl
def labelsA (m : Fl) (ow : Int) : List (List UInt8) :=
 if placeA ow m.hs 0 < 0 then [] else namesA m.gs.sum.toNat ((m.hs.getD (placeA ow m.hs 0).toNat ⟨0, 0, 0, []⟩).st)
theorem labels15_any (w : World) (B f : Nat) (m : FlM) (ow : Int) (h : FlAt w B f m) (hk : FlOk m.abs) (hl : m.hs.length ≤ 1000) :
 Calls Tryz.prog 84 #[.pointer (some ⟨f, 0, none⟩), .int .i64 ow] w fun e w' => OwnS w (labelsA m.abs ow) e w' := by
 obtain ⟨i0, hi, hz0, hz1, hz2⟩ := info_parts info_str
 have HPL : Hid (Calls Tryz.prog 100 #[.pointer (some ⟨f, 0, none⟩), .int .i64 ow] w fun e w' => e = .returned (.int .i64 (placeA ow m.abs.hs 0)) ∧ w' = w) := zh (by have e1 : placeF ow m.hs 0 = placeA ow m.abs.hs 0 := placeA_eq ow m.hs 0; rw [← e1]; exact place15_any w B f m ow h hl)
 have hpc : placeA ow m.abs.hs 0 = -1 ∨ ∃ k : Nat, k < m.hs.length ∧ placeA ow m.abs.hs 0 = (k : Int) := by
  rcases placeA_cases ow m.abs.hs 0 with h | ⟨k, h1, h2⟩
  ·exact .inl h
  ·exact .inr ⟨k, by simpa [FlM.abs] using h1, by simpa using h2⟩
 obtain ⟨a, ct, ha, hct, hct6, ha10⟩ := hk.count
 have HV1 : Hid (labelsA m.abs ow = if placeA ow m.abs.hs 0 < 0 then [] else namesA a ((m.abs.hs.getD (placeA ow m.abs.hs 0).toNat ⟨0, 0, 0, []⟩).st)) := zh (by
  unfold labelsA
  have : m.abs.gs.sum.toNat = a := by show m.gs.sum.toNat = a; rw [ha]; rfl
  rw [this])
 rcases hpc with hp | ⟨p, hp, hpe⟩
 ·rw [hp] at HPL HV1
  rw [zl (by omega)] at HV1
  rw [HV1.out]
  clear HV1 hp
  go_in
  go_wp2_with fail
  refine HPL.out.mono ?_
  rintro e w1 ⟨rfl, hw1⟩
  rw [hw1]
  clear hw1 w1
  go_wp2_with fail
  go_loopw [6, 7] (fun v6 v7 wr => v6 = .slice none 0 0 ∧ v7 = .int .i64 0 ∧ wr = w) (fun _ _ _ => 0)
  case atStart => exact ⟨rfl, rfl, rfl⟩
  case round =>
   obtain ⟨rfl, rfl, rfl⟩ := hrel
   go_wp2_with fail
   go_ret
   exact ⟨_, rfl, Sl.nil _ _ _ _, za _ _⟩
 ·rw [hpe] at HPL HV1
  rw [zk (by omega), zx] at HV1
  have hst : (m.abs.hs.getD p ⟨0, 0, 0, []⟩).st = m.hs[p].st := by
   unfold FlM.abs
   dsimp only
   rw [List.getD_eq_getElem?_getD, List.getElem?_map, zH hp]
   rfl
  rw [hst] at HV1
  have HY1 : Hid (∀ w', Fresh w w' → w'.cell? ⟨f, 1, none⟩ = some (.int .i64 m.rows)) := zh fun w' F => (h.fresh F).blk.cell 1
  have HY2 : Hid (∀ w', Fresh w w' → w'.cell? ⟨f, 2, none⟩ = some (.slice m.GA m.gs.length m.gc)) := zh fun w' F => (h.fresh F).blk.cell 2
  have HY4 : Hid (∀ w', Fresh w w' → w'.cell? ⟨f, 4, none⟩ = some (.slice m.HA m.hs.length m.hc)) := zh fun w' F => (h.fresh F).blk.cell 4
  obtain ⟨b, o, hAe, _, hh0, hh1, hh2, hh3⟩ := hold_at h.hsl.rd hp
  have hbb : b < w.heap.size := World.block_lt_of_cell? _ _ hh3
  have HY5 : Hid (∀ w', Fresh w w' → w'.cell? ⟨b, o + p * 4 + 3, none⟩ = some (.slice m.hs[p].A m.hs[p].st.length m.hs[p].c)) := zh fun w' F => (F.cell (p := ⟨b, o + p * 4 + 3, none⟩) hbb (fun f => f)).trans hh3
  have HRS : Hid (∀ w', Fresh w w' → Rd w' w'.heap.size m.hs[p].A (ivs m.hs[p].st)) := zh fun w' F => ((h.fresh F).ssl _ (ze hp)).rd
  have HLA : Hid (∀ w' (i : Nat), Fresh w w' → i < ct → Calls Tryz.prog 101 #[.agg #[.int .i64 m.rows, .slice m.GA m.gs.length m.gc], .int .i64 (i : Int)] w' fun e w'' => LabelPost w' (nameOf a i) e w'') := zh fun w' i F hi => label_yes w' m.rows m.GA m.gc m.gs (h.fresh F).gsl.rd hk.small i a ha (by rw [hct]; omega)
  have HIN : Hid (∀ n ∈ m.hs[p].st, 0 ≤ n ∧ n < (ct : Int)) := zh (by rw [← hct]; exact (hk.at_ _ (ze hp)).2.2.2)
  have hsl6 : m.hs[p].st.length ≤ 600 := by have := hk.at_ _ (ze hp); omega
  rw [hAe] at HY4
  rw [HV1.out]
  clear hst hh0 hh1 hh2 hh3
  generalize m.hs[p].st = st at HY5 HRS HIN hsl6 HV1 ⊢
  generalize m.hs[p].A = SA at HY5 HRS
  generalize m.hs[p].c = sc at HY5
  generalize m.rows = rows at HY1 HLA
  generalize m.GA = GA at HY2 HLA
  generalize m.gs.length = gn at HY2 HLA
  generalize m.gc = gc at HY2 HLA
  generalize m.hc = hcap at HY4
  generalize m.hs.length = hn at HY4 hp hl
  have p0 : (0 : Int) ≤ (p : Int) := by omega
  have p1 : (p : Int) < (hn : Int) := by omega
  clear HV1 hpe h hk ha hct hAe
  go_in
  go_wp2_with fail
  refine HPL.out.mono ?_
  rintro e w1 ⟨rfl, hw1⟩
  rw [hw1]
  clear hw1 w1
  go_wp2_with fail
  go_loopw [6, 7] (fun v6 v7 wr => ∃ (k : Nat) (acc : List (List UInt8)), k ≤ st.length ∧ v7 = .int .i64 (k : Int) ∧ acc = namesA a (st.take k) ∧ Sl wr w.heap.size 9 1 v6 acc.length (svs acc) ∧ Fresh w wr) (fun _ v7 _ => st.length - (intOf v7).toNat)
  case atStart => exact ⟨0, [], by omega, rfl, by simp [namesA], Sl.nil _ _ _ _, za _ _⟩
  case round =>
   obtain ⟨k, acc, hkl, rfl, hacc, hsl, hf⟩ := hrel
   have hk0 : (0 : Int) ≤ (k : Int) := by omega
   have HF := zh hf
   have HAC := zh hacc
   have hal : acc.length ≤ 600 := by rw [hacc]; unfold namesA; simp; omega
   obtain ⟨A6, c6, rfl, _⟩ := hsl.shape
   have HSL := zh hsl
   have y4 := HY4.out wr hf
   have y5 := HY5.out wr hf
   clear hsl hf hacc
   by_cases hlt : k < st.length
   ·have hlti : (k : Int) < (st.length : Int) := by omega
    have d1 : decide ((k : Int) < (st.length : Int)) = true := zc hlti
    obtain ⟨b6, o6, hSA, _, hc6⟩ := (HRS.out wr HF.out).at_ (k := k) (by simpa using hlt)
    subst hSA
    rw [List.getElem_map] at hc6
    obtain ⟨hn0, hn1⟩ := HIN.out _ (ze hlt)
    have HN : Hid (acc ++ [nameOf a st[k].toNat] = namesA a (st.take (k + 1))) := zh (by rw [namesA_step hlt, HAC.out])
    generalize st[k] = n at hc6 hn0 hn1 HN
    obtain ⟨n, rfl⟩ := zA hn0
    rw [zx] at HN
    have HLL := zh (HLA.out wr.drew n HF.out.drew (by omega))
    have HCC : Hid (∀ w', Fresh wr w' → w'.cell? ⟨f, 1, none⟩ = some (.int .i64 rows) ∧ w'.cell? ⟨f, 2, none⟩ = some (.slice GA gn gc) ∧ w'.cell? ⟨f, 4, none⟩ = some (.slice (some ⟨b, o, none⟩) hn hcap) ∧ w'.cell? ⟨b, o + p * 4 + 3, none⟩ = some (.slice (some ⟨b6, o6, none⟩) st.length sc) ∧ w'.cell? ⟨b6, o6 + k, none⟩ = some (.int .i64 (n : Int))) := zh fun w' F =>
     ⟨HY1.out w' (HF.out.trans F), HY2.out w' (HF.out.trans F), HY4.out w' (HF.out.trans F), HY5.out w' (HF.out.trans F), (F.cell (World.block_lt_of_cell? _ _ hc6) (fun f => f)).trans hc6⟩
    generalize nameOf a n = nm at HN HLL
    clear hc6
    go_wp2_with fail
    go_region_held3 (fun w' => w'.cell? ⟨f, 1, none⟩ = some (.int .i64 rows) ∧ w'.cell? ⟨f, 2, none⟩ = some (.slice GA gn gc) ∧ w'.cell? ⟨f, 4, none⟩ = some (.slice (some ⟨b, o, none⟩) hn hcap) ∧ w'.cell? ⟨b, o + p * 4 + 3, none⟩ = some (.slice (some ⟨b6, o6, none⟩) st.length sc) ∧ w'.cell? ⟨b6, o6 + k, none⟩ = some (.int .i64 (n : Int))) (first | exact HCC.out _ (za _ _).drew | exact HCC.out _ ((za _ _).drew.trans HF2.out))
     (first | (go_at_call 101; show Calls _ _ #[_, _] wr.drew _; refine HLL.out.mono ?_; rintro e w2 ⟨rfl, f2⟩; have HF2 := zh f2; clear f2))
    have HF4 := zh (HF.out.drew.trans HF2.out)
    have HSL4 := zh (HSL.out.fresh ((za _ _).drew.trans HF2.out))
    have R1 := zh (qE w2 (.string (str nm)) 9)
    have HSA := zh (HSL4.out.alloc (.cells #[.string (str nm)] 9))
    have HFA := zh (HF4.out.alloc (.cells #[.string (str nm)] 9))
    have t4 : ∀ u ∈ [Value.string (str nm)], u.oneCell' = true := fun u hu => by simp at hu; subst hu; rfl
    go_wp2_with (at_builtin; refine jK (by rfl) (.tmp 49) (.tmp 51) _ rfl w 9 i0 _ 1 16 Tryz.underlying104 hi hz0 hz1 hz2 rfl Nat.one_pos _ acc.length _ rfl HSA.out _ _ 1 _ _ rfl rfl R1.out t4 (by omega) (by omega) HFA.out ?_; intro v5 x5 hs5 hf5)
    have HS5 : Hid (Sl x5 w.heap.size 9 1 v5 (acc ++ [nm]).length (svs (acc ++ [nm]))) := zh (snoc_ss hs5)
    have HF5 := zh hf5
    clear hs5 hf5
    go_roundw
    case rel => exact ⟨k + 1, acc ++ [nm], by omega, by go_num, HN.out, HS5.out, HF5.out⟩
    case measure => simp [intOf]; omega
   ·have hlti : ¬ (k : Int) < (st.length : Int) := by omega
    have d1 : decide ((k : Int) < (st.length : Int)) = false := zb hlti
    have d2 : decide (k < st.length) = false := zb hlt
    have HE : Hid (acc = namesA a st) := zh (by rw [HAC.out, zD (by omega)])
    go_wp2_with fail
    go_ret
    unfold OwnS
    rw [← HE.out]
    exact ⟨_, rfl, HSL.out, HF.out⟩
end
namespace FareM
open Ieee
def mag (r : Nat) : Nat := if r < 4503599627370496 then r else (4503599627370496 + r % 4503599627370496) * 2 ^ (r / 4503599627370496 - 1)
theorem mag_succ (r : Nat) : mag r < mag (r + 1) := by
 unfold mag
 by_cases h1 : r + 1 < 4503599627370496
 ·rw [zl (by omega), zl h1]; omega
 ·by_cases h0 : r < 4503599627370496
  ·rw [zl h0, zk h1]
   have : r + 1 = 4503599627370496 := by omega
   rw [this]
   simp
   omega
  ·rw [zk h0, zk h1]
   by_cases hm : (r + 1) % 4503599627370496 = 0
   ·have e1 : (r + 1) / 4503599627370496 = r / 4503599627370496 + 1 := by omega
    have e2 : r % 4503599627370496 = 4503599627370495 := by omega
    obtain ⟨k, hk⟩ : ∃ k, r / 4503599627370496 = k + 1 := ⟨r / 4503599627370496 - 1, by omega⟩
    rw [hm, e1, e2, hk]
    simp only [Nat.add_sub_cancel, Nat.pow_succ]
    have : 0 < 2 ^ k := Nat.pos_pow_of_pos' k
    omega
   ·have e1 : (r + 1) / 4503599627370496 = r / 4503599627370496 := by omega
    have e2 : (r + 1) % 4503599627370496 = r % 4503599627370496 + 1 := by omega
    rw [e1, e2]
    have : 0 < 2 ^ (r / 4503599627370496 - 1) := Nat.pos_pow_of_pos' _
    rw [← Nat.add_assoc, Nat.add_mul _ 1]
    omega
where Nat.pos_pow_of_pos' (k : Nat) : 0 < 2 ^ k := Nat.pow_pos (by omega)
theorem mag_lt {a b : Nat} (h : a < b) : mag a < mag b := by
 induction b with
 | zero => omega
 | succ b ih =>
  rcases zL a b with hb | hb
  ·exact Nat.lt_trans (ih hb) (mag_succ b)
  ·have : a = b := by omega
   subst this
   exact mag_succ a
theorem mag_lt_iff {a b : Nat} : mag a < mag b ↔ a < b := by
 constructor
 ·intro h
  rcases zL a b with hb | hb
  ·exact hb
  ·rcases Nat.eq_or_lt_of_le hb with e | e
   ·subst e; omega
   ·have := mag_lt e; omega
 ·exact mag_lt
def rung (u : Nat) : Nat := u % 9223372036854775808
def neg (u : Nat) : Bool := u / 9223372036854775808 % 2 == 1
def nan (u : Nat) : Bool := decide (9218868437227405312 < rung u)
def worth (u : Nat) : Int := if neg u then -(mag (rung u) : Int) else (mag (rung u) : Int)
theorem binade_eq : double.binade = 4503599627370496 := by decide
theorem inf_eq : double.infRung = 9218868437227405312 := by decide
theorem sign_eq : double.signWeight = 9223372036854775808 := by decide
theorem least_eq : double.leastPlace = -1074 := by decide
theorem read_eq (u : Nat) : double.read u =
 if rung u < 4503599627370496 then .number (neg u) (rung u) (-1074)
 else if rung u < 9218868437227405312 then .number (neg u) (4503599627370496 + rung u % 4503599627370496) (-1074 + ((rung u / 4503599627370496 - 1 : Nat) : Int))
 else if rung u = 9218868437227405312 then .infinity (neg u)
 else .nan (neg u) (rung u - 9218868437227405312) := by
 unfold Format.read rung neg
 simp only [binade_eq, inf_eq, sign_eq, least_eq]
theorem read_number {u : Nat} (h : rung u < 9218868437227405312) : ∃ m e : Nat, double.read u = .number (neg u) m (-1074 + (e : Int)) ∧ mag (rung u) = m * 2 ^ e := by
 rw [read_eq]
 unfold mag
 by_cases h0 : rung u < 4503599627370496
 ·rw [zl h0, zl h0]
  exact ⟨rung u, 0, by simp, by simp⟩
 ·rw [zk h0, zl h, zk h0]
  exact ⟨_, _, rfl, rfl⟩
theorem read_inf {u : Nat} (h : rung u = 9218868437227405312) : double.read u = .infinity (neg u) := by
 rw [read_eq, zk (by omega), zk (by omega), zl h]
theorem read_nan {u : Nat} (h : nan u = true) : double.read u = .nan (neg u) (rung u - 9218868437227405312) := by
 have : 9218868437227405312 < rung u := by simpa [nan] using h
 rw [read_eq, zk (by omega), zk (by omega), zk (by omega)]
theorem signed_mul (s : Bool) (m k c : Nat) : signed s m (k + c) = signed s m k * (2 ^ c : Nat) := by
 unfold signed
 cases s <;> simp [Nat.shiftLeft_eq, Nat.pow_add, ← Nat.mul_assoc, Int.neg_mul]
theorem compare_mul (a b : Int) (c : Nat) : compare (a * (2 ^ c : Nat)) (b * (2 ^ c : Nat)) = compare a b := by
 have hc : (0 : Int) < (2 ^ c : Nat) := by
  have : 0 < 2 ^ c := Nat.pow_pos (by omega)
  omega
 simp only [compare, compareOfLessAndEq]
 have e1 : a * (2 ^ c : Nat) < b * (2 ^ c : Nat) ↔ a < b := Int.mul_lt_mul_right hc
 have e2 : a * (2 ^ c : Nat) = b * (2 ^ c : Nat) ↔ a = b := Int.mul_eq_mul_right_iff (by omega)
 simp only [e1, e2]
theorem cmp_lt {a b : Int} (h : a < b) : compare a b = .lt := by
 simp only [compare, compareOfLessAndEq]; rw [zl h]
theorem cmp_gt {a b : Int} (h : b < a) : compare a b = .gt := by
 simp only [compare, compareOfLessAndEq]; rw [zk (by omega), zk (by omega)]
theorem cmp_eq {a b : Int} (h : a = b) : compare a b = .eq := by
 subst h; simp only [compare, compareOfLessAndEq]; simp
theorem worth_eq {u m e : Nat} (h : mag (rung u) = m * 2 ^ e) : worth u = signed (neg u) m e := by
 unfold worth signed
 rw [h, Nat.shiftLeft_eq]
theorem order_eq {u v : Nat} (hu : nan u = false) (hv : nan v = false) : double.order u v = some (compare (worth u) (worth v)) := by
 have hu' : rung u ≤ 9218868437227405312 := by simpa [nan] using hu
 have hv' : rung v ≤ 9218868437227405312 := by simpa [nan] using hv
 unfold Format.order
 rcases Nat.eq_or_lt_of_le hu' with eu | lu
 ·rw [read_inf eu]
  rcases Nat.eq_or_lt_of_le hv' with ev | lv
  ·rw [read_inf ev]
   show some (compare (neg v).toNat (neg u).toNat) = _
   unfold worth
   rw [eu, ev]
   have hp : (0 : Int) < mag 9218868437227405312 := by
    have := mag_lt (show 0 < 9218868437227405312 by omega)
    omega
   generalize (mag 9218868437227405312 : Int) = M at hp
   cases neg u <;> cases neg v
   ·rw [cmp_eq (by simp)]; rfl
   ·rw [cmp_gt (by simp; omega)]; rfl
   ·rw [cmp_lt (by simp; omega)]; rfl
   ·rw [cmp_eq (by simp)]; rfl
  ·obtain ⟨n, j, hr, hm⟩ := read_number lv
   rw [hr]
   show some (if neg u then Ordering.lt else Ordering.gt) = _
   have hlt : mag (rung v) < mag (rung u) := mag_lt (by omega)
   unfold worth
   generalize mag (rung v) = V at hlt
   generalize mag (rung u) = U at hlt
   cases neg u <;> cases neg v
   ·rw [cmp_gt (by simp; omega)]; rfl
   ·rw [cmp_gt (by simp; omega)]; rfl
   ·rw [cmp_lt (by simp; omega)]; rfl
   ·rw [cmp_lt (by simp; omega)]; rfl
 ·obtain ⟨m, i, hr, hm⟩ := read_number lu
  rw [hr]
  rcases Nat.eq_or_lt_of_le hv' with ev | lv
  ·rw [read_inf ev]
   show some (if neg v then Ordering.gt else Ordering.lt) = _
   have hlt : mag (rung u) < mag (rung v) := mag_lt (by omega)
   unfold worth
   generalize mag (rung v) = V at hlt
   generalize mag (rung u) = U at hlt
   cases neg u <;> cases neg v
   ·rw [cmp_lt (by simp; omega)]; rfl
   ·rw [cmp_gt (by simp; omega)]; rfl
   ·rw [cmp_lt (by simp; omega)]; rfl
   ·rw [cmp_gt (by simp; omega)]; rfl
  ·obtain ⟨n, j, hr2, hm2⟩ := read_number lv
   rw [hr2]
   show some (compare (signed (neg u) m ((-1074 + (i : Int)) - min (-1074 + (i : Int)) (-1074 + (j : Int))).toNat) (signed (neg v) n ((-1074 + (j : Int)) - min (-1074 + (i : Int)) (-1074 + (j : Int))).toNat)) = _
   rw [worth_eq hm, worth_eq hm2]
   obtain ⟨c, hc1, hc2⟩ : ∃ c, i = ((-1074 + (i : Int)) - min (-1074 + (i : Int)) (-1074 + (j : Int))).toNat + c ∧ j = ((-1074 + (j : Int)) - min (-1074 + (i : Int)) (-1074 + (j : Int))).toNat + c := ⟨min i j, by omega, by omega⟩
   generalize ((-1074 + (i : Int)) - min (-1074 + (i : Int)) (-1074 + (j : Int))).toNat = a at hc1
   generalize ((-1074 + (j : Int)) - min (-1074 + (i : Int)) (-1074 + (j : Int))).toNat = b at hc2
   rw [hc1, hc2, signed_mul, signed_mul, compare_mul]
theorem order_nan_left {u : Nat} (v : Nat) (hu : nan u = true) : double.order u v = none := by
 unfold Format.order
 rw [read_nan hu]
 rfl
theorem order_nan_right (u : Nat) {v : Nat} (hv : nan v = true) : double.order u v = none := by
 unfold Format.order
 rw [read_nan hv]
 cases double.read u <;> rfl
def of (k : Nat) : Nat := if k < 9223372036854775808 then 18446744073709551615 - k else k - 9223372036854775808
def sgnI (a b : Int) : Int := if a < b then -1 else if b < a then 1 else 0
def rank (u v : Nat) : Int := if nan u then (if nan v then 0 else -1) else if nan v then 1 else sgnI (worth u) (worth v)
theorem of_lt {u : Nat} (h : u < 18446744073709551616) : of u < 18446744073709551616 := by unfold of; split <;> omega
end FareM
namespace FareM
open Ieee
def E1 : Nat := 1074
def E2 : Nat := 2200
def E3 : Nat := 1126
theorem E1_eq : E1 = 1074 := rfl
theorem E2_eq : E2 = 2200 := rfl
theorem E21 : E2 = E1 + E3 := rfl
theorem E31 : E3 = E1 + 52 := rfl
def rne (n g : Nat) : Nat := n / g + if g < 2 * (n % g) ∨ (g = 2 * (n % g) ∧ n / g % 2 = 1) then 1 else 0
theorem cut_even (neg : Bool) (n drop : Nat) : Toward.even.cut neg n drop = rne n (2 ^ drop) := by
 unfold Toward.cut rne
 by_cases h : drop ≤ n.log2 + 2
 ·rw [Nat.min_eq_left h]
  simp only [Nat.shiftLeft_eq, Nat.one_mul]
  congr 1
  by_cases h1 : 2 ^ drop < 2 * (n % 2 ^ drop)
  ·simp [h1]
  ·by_cases h2 : 2 ^ drop = 2 * (n % 2 ^ drop)
   ·by_cases h3 : n / 2 ^ drop % 2 = 1
    ·rw [zl (.inr ⟨h2, h3⟩)]
     simp only [beq_iff_eq.2 h2, beq_iff_eq.2 h3]
     simp
    ·rw [zk (by rintro (h | ⟨_, h⟩); exact h1 h; exact h3 h)]
     have e3 : (n / 2 ^ drop % 2 == 1) = false := by simpa using h3
     simp only [e3]
     simp [h1]
   ·rw [zk (by rintro (h | ⟨h, _⟩); exact h1 h; exact h2 h)]
    have e2 : (2 ^ drop == 2 * (n % 2 ^ drop)) = false := by simpa using h2
    simp only [e2]
    simp [h1]
 ·rw [Nat.min_eq_right (by omega)]
  simp only [Nat.shiftLeft_eq, Nat.one_mul]
  have hl : n < 2 ^ (n.log2 + 1) := Nat.lt_log2_self
  have h2 : 2 ^ (n.log2 + 2) = 2 * 2 ^ (n.log2 + 1) := by rw [Nat.pow_succ]; omega
  have h3 : 2 ^ (n.log2 + 2) ≤ 2 ^ drop := Nat.pow_le_pow_right (by omega) (by omega)
  rw [Nat.div_eq_of_lt (by omega), Nat.mod_eq_of_lt (show n < 2 ^ (n.log2 + 2) by omega), Nat.div_eq_of_lt (show n < 2 ^ drop by omega), Nat.mod_eq_of_lt (show n < 2 ^ drop by omega)]
  rw [zk (by omega)]
  have e1 : ¬ 2 ^ (n.log2 + 2) < 2 * n := by omega
  simp [e1]
theorem rne_scale (n g c : Nat) (hc : 0 < c) : rne (n * c) (g * c) = rne n g := by
 unfold rne
 rw [Nat.mul_div_mul_right _ _ hc, Nat.mul_mod_mul_right]
 have e1 : g * c < 2 * (n % g * c) ↔ g < 2 * (n % g) := by rw [← Nat.mul_assoc]; exact Nat.mul_lt_mul_right hc
 have e2 : g * c = 2 * (n % g * c) ↔ g = 2 * (n % g) := by rw [← Nat.mul_assoc]; exact Nat.mul_right_cancel_iff hc
 simp only [e1, e2]
theorem rne_up (n g : Nat) (hg : 0 < g) : 2 * n ≤ (2 * rne n g + 1) * g ∧ (2 * n = (2 * rne n g + 1) * g → rne n g % 2 = 0) := by
 have h1 := Nat.div_add_mod n g
 have h2 := Nat.mod_lt n hg
 unfold rne
 generalize n / g = q at *
 generalize n % g = t at *
 rw [Nat.mul_comm g q] at h1
 split
 ·have e : (2 * (q + 1) + 1) * g = 2 * (q * g) + 3 * g := by rw [Nat.add_mul, Nat.mul_assoc, Nat.add_mul]; omega
  rw [e]
  omega
 ·rename_i h
  simp only [Nat.add_zero]
  have e : (2 * q + 1) * g = 2 * (q * g) + g := by rw [Nat.add_mul, Nat.mul_assoc, Nat.one_mul]
  rw [e]
  refine ⟨by omega, fun he => ?_⟩
  have ht : g = 2 * t := by omega
  rcases Nat.mod_two_eq_zero_or_one q with hq | hq
  ·exact hq
  ·exact absurd (.inr ⟨ht, hq⟩) h
theorem rne_low (n g : Nat) (hg : 0 < g) : 2 * rne n g * g ≤ 2 * n + g ∧ (2 * rne n g * g = 2 * n + g → rne n g % 2 = 0) := by
 have h1 := Nat.div_add_mod n g
 have h2 := Nat.mod_lt n hg
 unfold rne
 generalize n / g = q at *
 generalize n % g = t at *
 rw [Nat.mul_comm g q] at h1
 split
 ·rename_i h
  have e : 2 * (q + 1) * g = 2 * (q * g) + 2 * g := by rw [Nat.mul_add, Nat.add_mul, Nat.mul_assoc]
  rw [e]
  refine ⟨by omega, fun he => ?_⟩
  omega
 ·rw [Nat.add_zero]
  have e : 2 * q * g = 2 * (q * g) := by rw [Nat.mul_assoc]
  rw [e]
  omega
theorem rne_mono (a b g : Nat) (hg : 0 < g) (h : a ≤ b) : rne a g ≤ rne b g := by
 obtain ⟨l1, l2⟩ := rne_low a g hg
 obtain ⟨u1, u2⟩ := rne_up b g hg
 generalize rne a g = r at *
 generalize rne b g = s at *
 rcases zL s r with hlt | hge
 ·exfalso
  have e : (2 * s + 1) * g = 2 * s * g + g := by rw [Nat.add_mul, Nat.one_mul]
  rw [e] at u1 u2
  rcases zL (s + 1) r with h2 | h2
  ·have h3 : 2 * (s + 2) * g ≤ 2 * r * g := Nat.mul_le_mul_right _ (by omega)
   have e2 : 2 * (s + 2) * g = 2 * s * g + 4 * g := by rw [Nat.mul_add, Nat.add_mul]
   omega
  ·obtain rfl : r = s + 1 := by omega
   have e2 : 2 * (s + 1) * g = 2 * s * g + 2 * g := by rw [Nat.mul_add, Nat.add_mul]
   rw [e2] at l1 l2
   have := l2 (by omega)
   have := u2 (by omega)
   omega
 ·exact hge
theorem rne_exact (c g : Nat) (hg : 0 < g) : rne (c * g) g = c := by
 unfold rne
 rw [Nat.mul_div_cancel _ hg, Nat.mul_mod_left]
 rw [zk (by omega)]
 rfl
def last (X : Nat) : Nat := max (X.log2 - 52) 1126
def R (X : Nat) : Nat := if X = 0 then 0 else (last X - 1126) * 4503599627370496 + rne X (2 ^ last X)
theorem log2_mono {X Y : Nat} (hX : X ≠ 0) (h : X ≤ Y) : X.log2 ≤ Y.log2 := (Nat.le_log2 (by omega)).2 (zp (Nat.log2_self_le hX) h)
theorem kept_le {X : Nat} (hX : X ≠ 0) : rne X (2 ^ last X) ≤ 9007199254740992 := by
 have h1 : X < 2 ^ (X.log2 + 1) := Nat.lt_log2_self
 have h2 : 2 ^ (X.log2 + 1) ≤ 2 ^ (53 + last X) := Nat.pow_le_pow_right (by omega) (by unfold last; omega)
 have h3 := rne_mono X (2 ^ 53 * 2 ^ last X) (2 ^ last X) (Nat.two_pow_pos _) (by rw [← Nat.pow_add]; omega)
 rw [rne_exact _ _ (Nat.two_pow_pos _)] at h3
 exact h3
theorem kept_ge {X : Nat} (hX : X ≠ 0) (h : 1126 + 52 ≤ X.log2) : 4503599627370496 ≤ rne X (2 ^ last X) := by
 have h1 : 2 ^ X.log2 ≤ X := Nat.log2_self_le hX
 have h2 : X.log2 = 52 + last X := by unfold last; omega
 have h3 := rne_mono (2 ^ 52 * 2 ^ last X) X (2 ^ last X) (Nat.two_pow_pos _) (by rw [← Nat.pow_add, ← h2]; exact h1)
 rw [rne_exact _ _ (Nat.two_pow_pos _)] at h3
 exact h3
theorem R_mono {X Y : Nat} (h : X ≤ Y) : R X ≤ R Y := by
 unfold R
 by_cases hX : X = 0
 ·rw [zl hX]; exact zF _
 ·rw [zk hX, zk (by omega)]
  have hl := log2_mono hX h
  have hll : last X ≤ last Y := by unfold last; omega
  rcases Nat.eq_or_lt_of_le hll with e | lt
  ·rw [e]
   exact Nat.add_le_add_left (rne_mono _ _ _ (Nat.two_pow_pos _) h) _
  ·have k1 := kept_le hX
   have k2 := kept_ge (X := Y) (by omega) (by unfold last at lt; omega)
   have h3 : 1126 ≤ last X := by unfold last; omega
   generalize rne X (2 ^ last X) = a at *
   generalize rne Y (2 ^ last Y) = b at *
   generalize last X = p at *
   generalize last Y = q at *
   omega
theorem log2_shift {m : Nat} (k : Nat) (hm : m ≠ 0) : (m * 2 ^ k).log2 = m.log2 + k := by
 have hp : 0 < 2 ^ k := Nat.two_pow_pos _
 have hne : m * 2 ^ k ≠ 0 := Nat.mul_ne_zero hm (by omega)
 apply Nat.le_antisymm
 ·have h1 : m < 2 ^ (m.log2 + 1) := Nat.lt_log2_self
  have h2 : m * 2 ^ k < 2 ^ (m.log2 + 1 + k) := by rw [Nat.pow_add]; exact Nat.mul_lt_mul_of_pos_right h1 hp
  have := (Nat.log2_lt hne).2 h2
  omega
 ·refine (Nat.le_log2 hne).2 ?_
  rw [Nat.pow_add]
  exact Nat.mul_le_mul_right _ (Nat.log2_self_le hm)
theorem nearest_eq (s : Bool) (m k : Nat) : double.nearest s m ((k : Int) - 2200) = double.word s (min (R (m * 2 ^ k)) 9218868437227405312) := by
 unfold Format.nearest
 by_cases hm : m = 0
 ·rw [zl hm, hm, Nat.zero_mul]
  simp [R]
 ·rw [zk hm]
  have hne : m * 2 ^ k ≠ 0 := Nat.mul_ne_zero hm (by have := Nat.two_pow_pos k; omega)
  have hlast : max ((k : Int) - 2200 + (m.log2 : Nat) - (double.fractionBits : Nat)) double.leastPlace = (last (m * 2 ^ k) : Int) - 2200 := by
   rw [least_eq, show (double.fractionBits : Int) = 52 from rfl]
   unfold last
   rw [log2_shift k hm]
   omega
  simp only [hlast]
  rw [least_eq, binade_eq, inf_eq]
  have h1126 : 1126 ≤ last (m * 2 ^ k) := by unfold last; omega
  congr 1
  congr 1
  unfold R
  rw [zk hne]
  generalize last (m * 2 ^ k) = L at h1126
  rw [show ((L : Int) - 2200 - -1074).toNat = L - 1126 by omega]
  congr 1
  rw [cut_even, Nat.shiftLeft_eq, show ((k : Int) - 2200 - ((L : Int) - 2200)).toNat = k - L by omega, show ((L : Int) - 2200 - ((k : Int) - 2200)).toNat = L - k by omega]
  rcases Nat.le_total k L with h | h
  ·rw [show k - L = 0 by omega, Nat.pow_zero, Nat.mul_one]
   have := rne_scale m (2 ^ (L - k)) (2 ^ k) (Nat.two_pow_pos _)
   rw [← Nat.pow_add, show L - k + k = L by omega] at this
   exact this.symm
  ·rw [show L - k = 0 by omega, Nat.pow_zero]
   have := rne_scale (m * 2 ^ (k - L)) 1 (2 ^ L) (Nat.two_pow_pos _)
   rw [Nat.one_mul, Nat.mul_assoc, ← Nat.pow_add, show k - L + L = k by omega] at this
   exact this.symm
theorem R_whole {k : Nat} (h0 : k ≠ 0) (hk : k.log2 ≤ 51) : R (k * 2 ^ E2) = (k.log2 + 1022) * 4503599627370496 + k * 2 ^ (52 - k.log2) := by
 have hne : k * 2 ^ E2 ≠ 0 := Nat.mul_ne_zero h0 (by have := Nat.two_pow_pos E2; omega)
 unfold R
 rw [zk hne]
 have hl : last (k * 2 ^ E2) = k.log2 + 2148 := by unfold last; rw [log2_shift _ h0, E2_eq]; omega
 rw [hl, show k.log2 + 2148 - 1126 = k.log2 + 1022 by omega]
 have e : k * 2 ^ E2 = k * 2 ^ (52 - k.log2) * 2 ^ (k.log2 + 2148) := by
  rw [Nat.mul_assoc, ← Nat.pow_add, show 52 - k.log2 + (k.log2 + 2148) = E2 by rw [E2_eq]; omega]
 rw [e, rne_exact _ _ (Nat.two_pow_pos _)]
theorem whole_kept {k : Nat} (h0 : k ≠ 0) (hk : k.log2 ≤ 51) : 4503599627370496 ≤ k * 2 ^ (52 - k.log2) ∧ k * 2 ^ (52 - k.log2) < 9007199254740992 := by
 have h1 : 2 ^ k.log2 ≤ k := Nat.log2_self_le h0
 have h2 : k < 2 ^ (k.log2 + 1) := Nat.lt_log2_self
 have hp : 0 < 2 ^ (52 - k.log2) := Nat.two_pow_pos _
 have e1 : 2 ^ k.log2 * 2 ^ (52 - k.log2) = 2 ^ 52 := by rw [← Nat.pow_add, show k.log2 + (52 - k.log2) = 52 by omega]
 have e2 : 2 ^ (k.log2 + 1) * 2 ^ (52 - k.log2) = 2 ^ 53 := by rw [← Nat.pow_add, show k.log2 + 1 + (52 - k.log2) = 53 by omega]
 have h3 := Nat.mul_le_mul_right (2 ^ (52 - k.log2)) h1
 have h4 := Nat.mul_lt_mul_of_pos_right h2 hp
 rw [e1] at h3
 rw [e2] at h4
 exact ⟨h3, h4⟩
theorem mag_whole {k : Nat} (hk : k.log2 ≤ 51) : mag (R (k * 2 ^ E2)) = k * 2 ^ E1 ∧ R (k * 2 ^ E2) < 9218868437227405312 := by
 by_cases h0 : k = 0
 ·subst h0; rw [Nat.zero_mul, Nat.zero_mul]; simp [R, mag]
 ·rw [R_whole h0 hk]
  obtain ⟨h1, h2⟩ := whole_kept h0 hk
  have e3 : k * 2 ^ E1 = k * 2 ^ (52 - k.log2) * 2 ^ (k.log2 + 1022) := by
   rw [Nat.mul_assoc, ← Nat.pow_add, show 52 - k.log2 + (k.log2 + 1022) = E1 by rw [E1_eq]; omega]
  rw [e3]
  generalize k * 2 ^ (52 - k.log2) = c at h1 h2
  generalize k.log2 = l at hk
  unfold mag
  refine ⟨?_, by omega⟩
  rw [zk (by omega), show ((l + 1022) * 4503599627370496 + c) / 4503599627370496 - 1 = l + 1022 by omega, show ((l + 1022) * 4503599627370496 + c) % 4503599627370496 = c - 4503599627370496 by omega, show 4503599627370496 + (c - 4503599627370496) = c by omega]
theorem log2_small {k : Nat} (h : k < 4503599627370496) : k.log2 ≤ 51 := by
 by_cases h0 : k = 0
 ·subst h0; decide
 ·have := (Nat.log2_lt (k := 52) h0).2 (by simpa using h); omega
def fl (k : Nat) : Nat := R (k * 2 ^ E2)
theorem word_pos (r : Nat) : double.word false r = r := rfl
theorem nearest_fl {k : Nat} (h : k < 4503599627370496) : FloatKind.f64.nearest (k : Int) = fl k := by
 have h1 := nearest_eq false k E2
 rw [show ((E2 : Nat) : Int) - 2200 = 0 by rw [E2_eq]; omega, word_pos, Nat.min_eq_left (jA (mag_whole (log2_small h)).2)] at h1
 unfold fl
 rw [← h1]
 unfold FloatKind.nearest FloatKind.encode
 show double.nearest (decide ((k : Int) < 0)) (k : Int).natAbs 0 = _
 rw [show decide ((k : Int) < 0) = false by simp, Int.natAbs_natCast]
theorem fl_lt {k : Nat} (h : k < 4503599627370496) : fl k < 9218868437227405312 := (mag_whole (log2_small h)).2
theorem fl_mag {k : Nat} (h : k < 4503599627370496) : mag (fl k) = k * 2 ^ E1 := (mag_whole (log2_small h)).1
theorem low_rung {u : Nat} (h : u < 9218868437227405312) : rung u = u ∧ neg u = false := by
 unfold rung neg
 refine ⟨by omega, ?_⟩
 rw [Nat.div_eq_of_lt (by omega)]
 rfl
theorem low_worth {u : Nat} (h : u < 9218868437227405312) : worth u = (mag u : Int) ∧ nan u = false := by
 obtain ⟨h1, h2⟩ := low_rung h
 unfold worth nan
 rw [h1, h2]
 exact ⟨rfl, by simp; omega⟩
theorem mul_fl {u k : Nat} (hu : u < 9218868437227405312) (hk : k < 4503599627370496) : double.mul u (fl k) = some (min (R (mag u * k * 2 ^ E3)) 9218868437227405312) := by
 obtain ⟨r1, n1⟩ := low_rung hu
 obtain ⟨r2, n2⟩ := low_rung (fl_lt hk)
 obtain ⟨m, e, h1, h2⟩ := read_number (u := u) (by rw [r1]; exact hu)
 obtain ⟨m', e', h3, h4⟩ := read_number (u := fl k) (by rw [r2]; exact fl_lt hk)
 rw [r1] at h2
 rw [r2, fl_mag hk] at h4
 rw [n1] at h1
 rw [n2] at h3
 unfold Format.mul
 rw [h1, h3]
 show some (double.nearest (false ^^ false) (m * m') (-1074 + (e : Int) + (-1074 + (e' : Int)))) = _
 have hp : (-1074 + (e : Int) + (-1074 + (e' : Int))) = ((e + e' + 52 : Nat) : Int) - 2200 := by omega
 have harg : m * m' * 2 ^ (e + e' + 52) = mag u * k * 2 ^ E3 := by
  have : m * m' * 2 ^ (e + e' + 52) = m * 2 ^ e * (m' * 2 ^ e') * 2 ^ 52 := by
   rw [Nat.pow_add, Nat.pow_add]
   simp only [Nat.mul_assoc, Nat.mul_left_comm]
  rw [this, ← h4, h2, E31, Nat.pow_add]
  simp only [Nat.mul_assoc]
 rw [hp, nearest_eq, harg, show (false ^^ false) = false from rfl, word_pos]
def prod (u k : Nat) : Nat := R (mag u * k * 2 ^ E3)
theorem prod_le {u k : Nat} (hu : mag u ≤ 2 ^ E1) : prod u k ≤ fl k := by
 refine R_mono ?_
 rw [E21, Nat.pow_add, ← Nat.mul_assoc]
 refine Nat.mul_le_mul_right _ ?_
 rw [Nat.mul_comm]
 exact Nat.mul_le_mul_left _ hu
theorem mag_mono {a b : Nat} (h : a ≤ b) : mag a ≤ mag b := by
 rcases Nat.eq_or_lt_of_le h with e | l
 ·rw [e]; exact zf _
 ·exact jA (mag_lt l)
def level (u k : Nat) : Nat := mag (prod u k) / 2 ^ E1
theorem level_le {u k : Nat} (hu : mag u ≤ 2 ^ E1) (hk : k < 4503599627370496) : level u k ≤ k := by
 unfold level
 have h := mag_mono (prod_le (k := k) hu)
 rw [fl_mag hk] at h
 have := Nat.div_le_div_right (c := 2 ^ E1) h
 rwa [Nat.mul_div_cancel _ (Nat.two_pow_pos _)] at this
theorem mul_prod {u k : Nat} (hu : u < 9218868437227405312) (hm : mag u ≤ 2 ^ E1) (hk : k < 4503599627370496) : double.mul u (fl k) = some (prod u k) := by
 rw [mul_fl hu hk]
 unfold prod
 rw [Nat.min_eq_left]
 exact zp (prod_le hm) (jA (fl_lt hk))
theorem fl_le_prod {u k n : Nat} (hm : mag u ≤ 2 ^ E1) (hk : k < 4503599627370496) (hn : n < 4503599627370496) : worth (fl n) ≤ worth (prod u k) ↔ n ≤ level u k := by
 have hp : prod u k < 9218868437227405312 := Nat.lt_of_le_of_lt (prod_le hm) (fl_lt hk)
 rw [(low_worth (fl_lt hn)).1, (low_worth hp).1, fl_mag hn]
 unfold level
 rw [Nat.le_div_iff_mul_le (Nat.two_pow_pos _)]
 exact Int.ofNat_le
theorem one_eq : fl 1 = 4607182418800017408 := by
 unfold fl
 rw [R_whole (by omega) (by decide)]
 rfl
theorem one_mag : mag 4607182418800017408 = 2 ^ E1 := by rw [← one_eq, fl_mag (by omega), Nat.one_mul]
theorem one_worth : worth 4607182418800017408 = ((2 ^ E1 : Nat) : Int) := by rw [(low_worth (by omega)).1, one_mag]
theorem zero_worth : worth 0 = 0 := by rw [(low_worth (by omega)).1]; simp [mag]
def levelOf (u k : Nat) : Nat := if nan u = true ∨ worth u ≤ 0 then 0 else if worth 4607182418800017408 ≤ worth u then k else level u k
theorem part_low {u : Nat} (hu : u < 18446744073709551616) (h1 : 0 < worth u) (h2 : worth u < worth 4607182418800017408) : u < 9218868437227405312 ∧ mag u ≤ 2 ^ E1 ∧ worth u = (mag u : Int) := by
 have hn : neg u = false := by
  rcases zI (neg u) with h | h
  ·unfold worth at h1; rw [zl h] at h1; omega
  ·exact h
 have hr : rung u = u := by
  unfold neg at hn
  unfold rung
  have : ¬ u / 9223372036854775808 % 2 = 1 := by simpa using hn
  omega
 have hw : worth u = (mag u : Int) := by unfold worth; rw [hn, hr]; rfl
 rw [one_worth, hw] at h2
 have h3 : mag u < mag 4607182418800017408 := by rw [one_mag]; omega
 have h4 := mag_lt_iff.1 h3
 exact ⟨by omega, by rw [← one_mag]; exact jA h3, hw⟩
end FareM
end Go.Proofs.YtnmokpbomeamfaaGreat

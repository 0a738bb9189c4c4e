/- Proved here, for the statement ClientOnceSaid: laws that its walk leans on. It holds with no condition. (Put together and shortened by a program out of many texts: On36.) -/
import Derived.Test.YtnmokpbomeamfaaGreatZ16
set_option linter.unusedVariables false
set_option maxRecDepth 100000
set_option maxHeartbeats 64000000
namespace Go.Proofs.YtnmokpbomeamfaaGreat
section
open Go.RowKit QueueM
theorem FlAt.less {w : World} {B B' f : Nat} {m : FlM} (h : FlAt w B f m) (hB : B' ≤ B) : FlAt w B' f m := ⟨h.blk, h.gsl.less hB, h.lsl.less hB, h.hsl.less hB, fun x hx => (h.ssl x hx).less hB⟩
theorem open18_any (w : World) (B b : Nat) (M : BkM) (n : Nat) (c : Cm) (GA : Option Addr) (gc : Nat) (PA : Option Addr) (pc : Nat) (h : BookAt w B b M) (hB : B ≤ w.heap.size) (hk : BookOk n M.abs) (hn : n < 100) (hc : CmB c) (hL : CmL w c GA gc PA pc) :
 Calls Tryz.prog 87 #[.pointer (some ⟨b, 0, none⟩), .agg (ccel c GA gc PA pc).toArray] w fun e w' => jN w B b (openA M.abs c) e w' := by
 obtain ⟨i0, hii, hz0, hz1, hz2⟩ := info_parts info_pl
 obtain ⟨cz, hcz⟩ : ∃ x, x = ccel c GA gc PA pc := ⟨_, rfl⟩
 obtain ⟨W, hW⟩ : ∃ W, (w.alloc (.cells cz.toArray 95)).alloc (.cells rz.toArray 106) = W := ⟨_, rfl⟩
 have HPR : Hid (Pre w W cz) := zh (by rw [← hW]; exact pre_of w cz)
 have HM0 : Hid (Mid w W cz B b n M) := zh (Mid.of HPR.out h hk)
 have HCF : Hid (∀ w', Blk w' w.heap.size 95 cz.toArray → w'.cell? ⟨w.heap.size, 2, none⟩ = some (.int .i64 c.fl) ∧ w'.cell? ⟨w.heap.size, 8, none⟩ = some (.int .i64 c.rows) ∧ w'.cell? ⟨w.heap.size, 9, none⟩ = some (.slice GA c.gs.length gc) ∧ w'.cell? ⟨w.heap.size, 10, none⟩ = some (.slice PA c.ps.length pc)) := zh fun w' hb => by rw [hcz] at hb; exact ⟨hb.cell 2, hb.cell 8, hb.cell 9, hb.cell 10⟩
 have hfew : M.fs.length ≤ 8 := by have := hk.few; rw [jJ] at this; exact this
 have HFL : Hid (Calls Tryz.prog 70 #[.pointer (some ⟨b, 0, none⟩), .int .i64 c.fl] W fun e w'' => e = .returned (.int .i64 (qL c.fl M.abs)) ∧ w'' = W) := zh (qD W B b M c.fl HM0.out.at_ hfew)
 have hLW := hL.fresh HPR.out.frm
 have HNE := zh (new15_any W c.fl c.rows GA gc c.gs hLW.g hc.gs PA pc c.ps hLW.p hc.ps.2 hLW.pl hLW.pm)
 have HV : Hid (openA M.abs c = if 0 ≤ qL c.fl M.abs then (M.abs, repC 7)
  else if 8 ≤ M.fs.length then (M.abs, repC 3)
  else if (newA c.fl c.rows c.gs c.ps).1 ≠ 0 then (M.abs, repC (newA c.fl c.rows c.gs c.ps).1)
  else ({ M.abs with fs := M.abs.fs.take (atNum c.fl M.abs.fs) ++ [⟨(newA c.fl c.rows c.gs c.ps).2, []⟩] ++ M.abs.fs.drop (atNum c.fl M.abs.fs) }, { repC 0 with fl := c.fl, left := leftA (newA c.fl c.rows c.gs c.ps).2 })) := zh (by unfold openA; rw [jJ])
 have HAT : Hid (atNum c.fl M.abs.fs = atM c.fl M.fs) := zh (atM_eq _ _).symm
 have HOP : Hid (¬ 0 ≤ qL c.fl M.abs → ¬ 8 ≤ M.fs.length → ¬ (newA c.fl c.rows c.gs c.ps).1 ≠ 0 → BookOk n { M.abs with fs := M.abs.fs.take (atNum c.fl M.abs.fs) ++ [⟨(newA c.fl c.rows c.gs c.ps).2, []⟩] ++ M.abs.fs.drop (atNum c.fl M.abs.fs) }) := zh fun a1 a2 a3 => hk.opened a1 (by rw [jJ]; exact a2) a3
 have HNO : Hid (¬ (newA c.fl c.rows c.gs c.ps).1 ≠ 0 → FlOk (newA c.fl c.rows c.gs c.ps).2 ∧ (newA c.fl c.rows c.gs c.ps).2.num = c.fl ∧ (newA c.fl c.rows c.gs c.ps).2.hs = []) := zh fun a => newA_ok a
 obtain ⟨x2, x8, x9, x10⟩ := HCF.out W HPR.out.cmd
 have xb : W.cell? ⟨b, 2, none⟩ = some (.slice M.FA M.fs.length M.fc) := HM0.out.at_.blk.cell 2
 rw [← hcz]
 generalize qL c.fl M.abs = fa at HFL HV HOP
 generalize newA c.fl c.rows c.gs c.ps = nr at HNE HV HOP HNO
 clear hcz h hk hc hL hLW
 go_in
 go_upto_region 1 with fail
 first | rw [show (w.alloc (.cells cz.toArray 95)).alloc (.cells #[.int .i64 0, .string ⟨#[]⟩, .int .i64 0, .int .i64 0, .int .i64 0, .int .i64 0, .int .i64 0, .slice none 0 0, .slice none 0 0] 106) = W from hW] | skip
 clear hW
 go_wp2_with fail
 refine HFL.out.mono ?_
 rintro e w1 ⟨rfl, hw1⟩
 rw [hw1]
 clear hw1 w1 HFL
 by_cases c0 : 0 ≤ fa
 ·have d0 : decide (0 ≤ fa) = true := zc c0
  rw [zl c0] at HV
  obtain ⟨zs, hzs⟩ : ∃ zs : List Value, zs = [.int .i64 7, .string ⟨#[]⟩, .int .i64 0, .int .i64 0, .int .i64 0, .int .i64 0, .int .i64 0, .slice none 0 0, .slice none 0 0] := ⟨_, rfl⟩
  have HZ : Hid (RepZ W (W).heap.size zs (repC 7)) := zh (by rw [hzs]; exact jX _ _ _)
  have HZS := zh hzs
  have HTH := zh ((HM0.out).there HZ.out)
  have HZJ := zh HZ.out.info
  have HZO := zh HZ.out.one
  clear hzs
  go_wp2_with (refine zd rfl 106 (.tmp 4) (.tmp 14) rfl (w.heap.size + 1) 0 zs.toArray rfl (by rw [HZS.out]; rfl) HTH.out HZJ.out HZO.out ?_)
  obtain ⟨E1, E2, E3⟩ := (HM0.out).end_ HZ.out (jA (zR HM0.out.size))
  exact zi (v := .agg zs.toArray) (jH (B := w.heap.size) Tryz.results87 rfl E1 E2) rfl (by rw [HV.out]; exact ⟨_, rfl, E2.v, E3⟩)
 ·have d0 : decide (0 ≤ fa) = false := zb c0
  rw [zk c0] at HV
  by_cases c1 : 8 ≤ M.fs.length
  ·have d1 : decide ((8 : Int) ≤ (M.fs.length : Int)) = true := zc (by omega)
   have d2 : decide (8 ≤ M.fs.length) = true := zc c1
   rw [zl c1] at HV
   obtain ⟨zs, hzs⟩ : ∃ zs : List Value, zs = [.int .i64 3, .string ⟨#[]⟩, .int .i64 0, .int .i64 0, .int .i64 0, .int .i64 0, .int .i64 0, .slice none 0 0, .slice none 0 0] := ⟨_, rfl⟩
   have HZ : Hid (RepZ W (W).heap.size zs (repC 3)) := zh (by rw [hzs]; exact jX _ _ _)
   have HZS := zh hzs
   have HTH := zh ((HM0.out).there HZ.out)
   have HZJ := zh HZ.out.info
   have HZO := zh HZ.out.one
   clear hzs
   go_wp2_with (refine zd rfl 106 (.tmp 4) (.tmp 21) rfl (w.heap.size + 1) 0 zs.toArray rfl (by rw [HZS.out]; rfl) HTH.out HZJ.out HZO.out ?_)
   obtain ⟨E1, E2, E3⟩ := (HM0.out).end_ HZ.out (jA (zR HM0.out.size))
   exact zi (v := .agg zs.toArray) (jH (B := w.heap.size) Tryz.results87 rfl E1 E2) rfl (by rw [HV.out]; exact ⟨_, rfl, E2.v, E3⟩)
  ·have d1 : decide ((8 : Int) ≤ (M.fs.length : Int)) = false := zb (by omega)
   have d2 : decide (8 ≤ M.fs.length) = false := zb c1
   rw [zk c1] at HV
   go_wp2_with fail
   refine HNE.out.mono ?_
   rintro e X ⟨F5, hp⟩
   have HX := zh (HM0.out.fresh F5)
   have HFW := zh F5
   have HBW : Hid (B ≤ W.heap.size) := zh (zp hB HPR.out.frm.size)
   clear x2 x8 x9 x10 xb F5 HNE
   rcases hp with ⟨h1, rfl⟩ | ⟨h1, f, m, rfl, hm, hfm, hfb, hhb⟩
   ·obtain ⟨ne, nf⟩ := nr
    dsimp only at h1 HV
    have d3 : (ne != 0) = true := by simpa using h1
    rw [zl h1] at HV
    clear HNO HOP
    obtain ⟨zs, hzs⟩ : ∃ zs : List Value, zs = [.int .i64 ne, .string ⟨#[]⟩, .int .i64 0, .int .i64 0, .int .i64 0, .int .i64 0, .int .i64 0, .slice none 0 0, .slice none 0 0] := ⟨_, rfl⟩
    have HZ : Hid (RepZ X (X).heap.size zs (repC ne)) := zh (by rw [hzs]; exact jX _ _ _)
    have HZS := zh hzs
    have HTH := zh ((HX.out).there HZ.out)
    have HZJ := zh HZ.out.info
    have HZO := zh HZ.out.one
    clear hzs
    go_wp2_with (refine zd rfl 106 (.tmp 4) (.tmp 35) rfl (w.heap.size + 1) 0 zs.toArray rfl (by rw [HZS.out]; rfl) HTH.out HZJ.out HZO.out ?_)
    obtain ⟨E1, E2, E3⟩ := (HX.out).end_ HZ.out (jA (zR HX.out.size))
    exact zi (v := .agg zs.toArray) (jH (B := w.heap.size) Tryz.results87 rfl E1 E2) rfl (by rw [HV.out]; exact ⟨_, rfl, E2.v, E3⟩)
   ·rw [zk (by simp [h1])] at HV
    obtain ⟨hfo, hnum, hhs⟩ := HNO.out (by simp [h1])
    have hok := HOP.out c0 c1 (by simp [h1])
    rw [HAT.out] at HV hok
    have HOK := zh hok
    obtain ⟨fl, hfl⟩ : ∃ z, z = M.fs.length := ⟨_, rfl⟩
    have HFLN := zh hfl
    have HFA := zh hfm
    have HMA := zh hm
    have HFO := zh hfo
    have HHS := zh hhs
    have HHB := zh hhb
    have HFB : Hid (W.heap.size ≤ f) := zh hfb
    have hfl8 : fl ≤ 8 := by omega
    clear hok hfm hm hfo hhs hhb hfb h1 HNO HOP hnum hfl
    go_wp2_with fail
    go_loopw [7] (fun v7 wr => ∃ i : Nat, i ≤ fl ∧ v7 = .int .i64 (i : Int) ∧ atM c.fl M.fs = i + atM c.fl (M.fs.drop i) ∧ Fresh X wr) (fun v7 _ => fl - (intOf v7).toNat)
    case atStart => exact ⟨0, by omega, rfl, by simp, za _ _⟩
    case round =>
     obtain ⟨i, hil, rfl, hat, hfx⟩ := hrel
     have hi0 : (0 : Int) ≤ (i : Int) := by omega
     have HATI := zh hat
     have HMR := zh (HX.out.fresh hfx)
     have HFX := zh hfx
     have x2 := (HCF.out wr HMR.out.cmd).1
     have xb : wr.cell? ⟨b, 2, none⟩ = some (.slice M.FA fl M.fc) := by rw [HFLN.out]; exact HMR.out.at_.blk.cell 2
     have HFR : Hid (Fresh X wr.drew) := zh hfx.drew
     clear hat hfx
     by_cases hlt : i < fl
     ·have hlm : i < M.fs.length := by rw [← HFLN.out]; exact hlt
      obtain ⟨g, o, hFA2, hgl, hp0, hp1⟩ := HMR.out.at_.place hlm
      have hnn : wr.cell? ⟨M.fs[i].f, 0, none⟩ = some (.int .i64 M.fs[i].m.num) := (HMR.out.at_.fl _ (ze hlm)).1.blk.cell 0
      rw [hFA2] at xb
      have hlti : decide ((i : Int) < (fl : Int)) = true := zc (by omega)
      have hltj : (i : Int) < (fl : Int) := by omega
      have hltn : decide (i < fl) = true := zc hlt
      have HST : Hid (atM c.fl M.fs = i + (if M.fs[i].m.num < c.fl then atM c.fl (M.fs.drop (i + 1)) + 1 else 0)) := zh (by rw [HATI.out, atM_step hlm])
      generalize M.fs[i].m.num = num at hnn HST
      generalize M.fs[i].f = fi at hp0 hnn
      clear hp1 hgl hlm hFA2
      by_cases hgo : num < c.fl
      ·have d4 : decide (num < c.fl) = true := zc hgo
       have HN : Hid (atM c.fl M.fs = (i + 1) + atM c.fl (M.fs.drop (i + 1))) := zh (by have := HST.out; rw [zl hgo] at this; omega)
       go_wp2_with fail
       refine zj (S := (fun w' => w'.cell? ⟨b, 2, none⟩ = some (.slice (some ⟨g, o, none⟩) fl M.fc) ∧ w'.cell? ⟨w.heap.size, 2, none⟩ = some (.int .i64 c.fl) ∧ w'.cell? ⟨g, o + i * 2, none⟩ = some (.pointer (some ⟨fi, 0, none⟩)) ∧ w'.cell? ⟨fi, 0, none⟩ = some (.int .i64 num))) (by kernel_rfl) (⟨xb, x2, hp0, hnn⟩) (fun hHeld => ?_)
       iterate 23 ((first | refine ztn (v := ?_) (zo rfl) ?_ | refine ztz (v := ?_) (zo rfl) ?_); try simp only [Act.put, zT, zZ, zS])
       refine wpAnyH_done (by kernel_rfl) ?_ _
       go_wp2_with fail
       go_roundw
       case rel => exact ⟨i + 1, by omega, by go_num, HN.out, HFR.out⟩
       case measure => simp [intOf]; omega
      ·have d4 : decide (num < c.fl) = false := zb hgo
       have HAI : Hid (atM c.fl M.fs = i) := zh (by have := HST.out; rw [zk hgo] at this; omega)
       clear hgo
       go_wp2_with fail
       refine zj (S := (fun w' => w'.cell? ⟨b, 2, none⟩ = some (.slice (some ⟨g, o, none⟩) fl M.fc) ∧ w'.cell? ⟨w.heap.size, 2, none⟩ = some (.int .i64 c.fl) ∧ w'.cell? ⟨g, o + i * 2, none⟩ = some (.pointer (some ⟨fi, 0, none⟩)) ∧ w'.cell? ⟨fi, 0, none⟩ = some (.int .i64 num))) (by kernel_rfl) (⟨xb, x2, hp0, hnn⟩) (fun hHeld => ?_)
       iterate 23 ((first | refine ztn (v := ?_) (zo rfl) ?_ | refine ztz (v := ?_) (zo rfl) ?_); try simp only [Act.put, zT, zZ, zS])
       refine wpAnyH_done (by kernel_rfl) ?_ _
       obtain ⟨Y, hY⟩ : ∃ Y, wr.drew = Y := ⟨_, rfl⟩
       have HMY : Hid (Mid w Y cz B b n M) := zh (by rw [← hY]; exact HX.out.fresh HFR.out)
       have HFY : Hid (Fresh X Y) := zh (by rw [← hY]; exact HFR.out)
       rw [hY]
       clear hY HFR HMR HFX HATI
       have hfl := HFLN.out
       have him : i ≤ M.fs.length := by omega
       obtain ⟨A1, A2', hcut⟩ := cuts_sl 84 i0 Tryz.underlying84 hii hz1 HMY.out.at_.fsl i him
       obtain ⟨q1, q2, q3, q4⟩ := hcut
       rw [flat_take4 pcel 2 (fun _ => rfl)] at q3
       rw [flat_drop4 pcel 2 (fun _ => rfl)] at q4
       rw [← hfl] at q1 q2
       have RT := zh (q3.alloc (zf _) (.cells #[] 134))
       have RD : Hid (∀ w', Fresh Y w' → Rd w' Y.heap.size A2' ((M.fs.drop i).flatMap pcel)) := zh fun w' F => q4.fresh (zf _) F
       have S0 := zh (nil_sl Y 134 2)
       have HL1 : Hid (((M.fs.take i).flatMap pcel).length = i * 2) := zh (by rw [flat_len pcel 2 (fun _ => rfl), zw, Nat.min_eq_left him])
       have HL2 : Hid (((M.fs.drop i).flatMap pcel).length = (fl - i) * 2) := zh (by rw [flat_len pcel 2 (fun _ => rfl), zN, hfl])
       have HE0 := zh (jC Y (.cells #[] 134))
       have HYA : Hid (∀ w', Fresh Y w' → w'.cell? ⟨b, 2, none⟩ = some (.slice M.FA fl M.fc)) := zh fun w' F => by rw [hfl]; exact (HMY.out.fresh F).at_.blk.cell 2
       have HZA : Hid (∀ w', Fresh Y w' → w'.frozen? ⟨b, 2, none⟩ = false) := zh fun w' F => (HMY.out.fresh F).at_.blk.frozen 2
       have y5 := HYA.out _ HE0.out
       clear hfl
       clear q3 q4
       go_wp2_with (first
        | (at_builtin; refine jK (by rfl) (.tmp 61) (.tmp 67) _ rfl Y 134 i0 _ 2 16 Tryz.underlying84 hii hz0 hz1 hz2 rfl (by omega) _ 0 [] rfl S0.out _ _ i _ _ rfl HL1.out RT.out (pcel_one _) (by omega) (by omega) HE0.out ?_; intro v6 x6 hs6 hf6; have HS6 := zh ((hs6.alloc (.cells #[.slice none 0 0] 138)).alloc (.cells #[.pointer (some ⟨f, 0, none⟩), .pointer (some ⟨x6.heap.size, 0, none⟩)] 134)); have HR6 : Hid (Rd ((x6.alloc (.cells #[.slice none 0 0] 138)).alloc (.cells #[.pointer (some ⟨f, 0, none⟩), .pointer (some ⟨x6.heap.size, 0, none⟩)] 134)) (x6.heap.size + 2) (some ⟨x6.heap.size + 1, 0, none⟩) [.pointer (some ⟨f, 0, none⟩), .pointer (some ⟨x6.heap.size, 0, none⟩)]) := zh (by have h1 := jL (x6.alloc (.cells #[.slice none 0 0] 138)) [.pointer (some ⟨f, 0, none⟩), .pointer (some ⟨x6.heap.size, 0, none⟩)] 134; rw [zJ] at h1; exact h1); have HF6 := zh ((hf6.alloc (.cells #[.slice none 0 0] 138)).alloc (.cells #[.pointer (some ⟨f, 0, none⟩), .pointer (some ⟨x6.heap.size, 0, none⟩)] 134)); have HQ6 : Hid (Blk ((x6.alloc (.cells #[.slice none 0 0] 138)).alloc (.cells #[.pointer (some ⟨f, 0, none⟩), .pointer (some ⟨x6.heap.size, 0, none⟩)] 134)) x6.heap.size 138 #[.slice none 0 0]) := zh ((Blk.new x6 _ _).alloc _); have HX6 : Hid (Y.heap.size ≤ x6.heap.size) := zh hf6.size; clear hs6 hf6)
        | (at_builtin; refine jD _ rfl (.tmp 69) (.tmp 74) _ rfl Y.heap.size 134 i0 _ 2 16 Tryz.underlying84 hii hz0 hz1 hz2 rfl (by omega) v6 (0 + i) _ rfl HS6.out _ (some ⟨x6.heap.size + 1, 0, none⟩) 1 1 [.pointer (some ⟨f, 0, none⟩), .pointer (some ⟨x6.heap.size, 0, none⟩)] rfl (by rfl) HR6.out (by intro u hu; simp at hu; rcases hu with rfl | rfl <;> rfl) (by unfold maxLen; omega) (by omega) (HF6.out.size) ?_; intro v7 x7 hs7 hf7 _; have HS7 := zh hs7; have HF7 : Hid (Fresh Y x7) := zh (HF6.out.trans' hf7 (fun k hk e => by have := (HS6.out.lt k e).1; omega)); have HQ7 : Hid (Blk x7 x6.heap.size 138 #[.slice none 0 0]) := zh (HQ6.out.frm hf7 (fun e => by obtain ⟨cs, hc, _⟩ := HS6.out.has e; exact hc.apart HQ6.out (by decide) rfl)); have y7 := HYA.out x7 HF7.out; clear hs7 hf7)
        | (at_builtin; refine jD _ rfl (.tmp 77) (.tmp 83) _ rfl Y.heap.size 134 i0 _ 2 16 Tryz.underlying84 hii hz0 hz1 hz2 rfl (by omega) v7 (0 + i + 1) _ rfl HS7.out Y.heap.size A2' (fl - i) _ _ rfl HL2.out (RD.out x7 HF7.out) (pcel_one _) (by unfold maxLen; omega) (by omega) (HF7.out.size) ?_; intro v8 x8 hs8 hf8 _; obtain ⟨nl, hnl⟩ : ∃ z, z = 0 + i + 1 + (fl - i) := ⟨_, rfl⟩; rw [← hnl] at hs8; have HNL := zh hnl; clear hnl; have HF8 : Hid (Fresh Y x8) := zh (HF7.out.trans' hf8 (fun k hk e => by have := (HS7.out.lt k e).1; omega)); have HQ8 : Hid (Blk x8 x6.heap.size 138 #[.slice none 0 0]) := zh (HQ7.out.frm hf8 (fun e => by obtain ⟨cs, hc, _⟩ := HS7.out.has e; exact hc.apart HQ7.out (by decide) rfl)); obtain ⟨A3, c3, rfl, _⟩ := hs8.shape; have HS8 := zh hs8; have y8 := HYA.out x8 HF8.out; have z8 := HZA.out x8 HF8.out; clear hs8 hf8))
       clear y5 y7 y8 z8 q1 q2 RT RD S0 HL1 HL2 HE0 HS6 HR6 HF6 HQ6 HS7 HF7 HQ7 HYA HZA
       obtain ⟨Z, hZ⟩ : ∃ Z, x8.setCell ⟨b, 2, none⟩ (.slice A3 nl c3) = Z := ⟨_, rfl⟩
       rw [hZ]
       obtain ⟨M', HMZ, HABS, HFZ⟩ : ∃ M' : BkM, Hid (Mid w Z cz B b n M') ∧ Hid (M'.abs = { M.abs with fs := M.abs.fs.take i ++ [⟨nr.2, []⟩] ++ M.abs.fs.drop i }) ∧ Hid (FlAt Z B f m) := by
        have hfl := HFLN.out
        have e1 : (insP M.fs i ⟨f, m, x6.heap.size, .slice none 0 0, []⟩).length = nl := by rw [insP_len _ him, ← hfl, HNL.out]
        have e2 := insP_flat M.fs i ⟨f, m, x6.heap.size, .slice none 0 0, []⟩
        have hYB : B ≤ Y.heap.size := zp HBW.out (zp HFW.out.size HFY.out.size)
        have h := BookAt.openF (A3 := A3) (c3 := c3) (i := i) (x := ⟨f, m, x6.heap.size, .slice none 0 0, []⟩) HM0.out.at_ (HFW.out.trans (HFY.out.trans HF8.out)) ((HFA.out.fresh (HFY.out.trans HF8.out)).less HBW.out) ⟨HQ8.out, zp hYB HX6.out, Sl.nil _ _ _ _⟩ HFB.out (zp (zp HFW.out.size HFY.out.size) HX6.out) HHB.out HBW.out (by rw [e1, e2]; exact HS8.out.less hYB)
        rw [e1, hZ] at h
        have ha := insP_abs M i ⟨f, m, x6.heap.size, .slice none 0 0, []⟩
        have hx : PlM.abs ⟨f, m, x6.heap.size, .slice none 0 0, []⟩ = ⟨nr.2, []⟩ := by rw [← HMA.out]; rfl
        rw [hx] at ha
        have hab : ({ M with FA := A3, fc := c3, fs := insP M.fs i ⟨f, m, x6.heap.size, .slice none 0 0, []⟩ } : BkM).abs = { M.abs with fs := M.abs.fs.take i ++ [⟨nr.2, []⟩] ++ M.abs.fs.drop i } := by
         show ({ M.abs with fs := (insP M.fs i ⟨f, m, x6.heap.size, .slice none 0 0, []⟩).map PlM.abs } : Book) = _
         rw [ha]
        have hok := HOK.out
        rw [HAI.out] at hok
        refine ⟨_, zh ((HMY.out.fresh HF8.out).step h.2 h.1 (by rw [hab]; exact hok)), zh hab, zh (h.1.fl ⟨f, m, x6.heap.size, .slice none 0 0, []⟩ ?_).1⟩
        show _ ∈ insP M.fs i ⟨f, m, x6.heap.size, .slice none 0 0, []⟩
        unfold insP
        simp
       have HV2 := HV.out
       rw [HAI.out] at HV2
       have HV3 := zh HV2
       have hms : m.hs = [] := by
        have h := HHS.out
        rw [← HMA.out] at h
        simpa [FlM.abs] using h
       have hml : m.lims.length ≤ 8 := by
        have h := HFO.out.few.2
        rw [← HMA.out] at h
        exact h
       have HLE := zh (left15_any Z.drew B f m (HFZ.out.fresh (za _ _).drew) (by rw [hms]; simp) hml (by rw [hms]; simp) (by rw [hms]; simp))
       rw [HMA.out] at HLE
       clear HV2 hms hml hZ HV HOK HMY HFY HFW HFA HFO HHS HHB HFB HMA HX HFLN HNL HS8 HQ8 HX6 HF8 HAI HFZ him
       generalize leftA nr.2 = lf at HLE HV3
       have HZZ : Hid (w.heap.size ≤ Z.heap.size) := zh (jA (zR HMZ.out.size))
       have HSS : Hid (∀ w', Fresh Z w' → w'.cell? ⟨w.heap.size, 2, none⟩ = some (.int .i64 c.fl)) := zh fun w' F => (HCF.out w' (HMZ.out.fresh F).cmd).1
       have HS2 : Hid (∀ w' w'', Fresh Z w' → Frm (fun k => k = w.heap.size + 1) w' w'' → w''.cell? ⟨w.heap.size, 2, none⟩ = some (.int .i64 c.fl)) := zh fun w' w'' F G => (G.cell (p := ⟨w.heap.size, 2, none⟩) (HMZ.out.fresh F).cmd.lt (by show ¬ w.heap.size = w.heap.size + 1; omega)).trans (HSS.out w' F)
       go_wp2_with fail
       refine zj (S := (fun w' => w'.cell? ⟨w.heap.size, 2, none⟩ = some (.int .i64 c.fl))) (by kernel_rfl) (HSS.out _ ((za _ _).drew)) (fun hHeld => ?_)
       iterate 3 ((first | refine ztn (v := ?_) (zo rfl) ?_ | refine ztz (v := ?_) (zo rfl) ?_); try simp only [Act.put, zT, zZ, zS])
       refine zr1 3 (zo rfl) (fun K hK => ?_)
       go_simp
       refine (HLE.out).mono ?_
       rintro e w5 ⟨v5, rfl, s5, f5⟩
       obtain ⟨A5, c5, rfl, _⟩ := s5.shape
       have HF5 : Hid (Fresh Z w5) := zh ((za _ _).drew.trans f5)
       have HM5 := zh (HMZ.out.fresh HF5.out)
       obtain ⟨zs, hzs⟩ : ∃ zs : List Value, zs = [.int .i64 0, .string ⟨#[]⟩, .int .i64 0, .int .i64 c.fl, .int .i64 0, .int .i64 0, .int .i64 0, .slice A5 lf.length c5, .slice none 0 0] := ⟨_, rfl⟩
       have HRZ : Hid (RepZ w5 Z.heap.size zs ({ repC 0 with fl := c.fl, left := lf })) := zh (by rw [hzs]; exact ⟨A5, c5, none, 0, rfl, s5, Sl.nil _ _ _ _⟩)
       have HZS := zh hzs
       have HTH := zh (HM5.out.there HRZ.out)
       have HZJ := zh HRZ.out.info
       have HZO := zh HRZ.out.one
       clear s5 f5 hzs
       refine hK.out _ _ (HSS.out _ HF5.out) (fun hHeld => ?_)
       clear hK K
       try simp only [Act.put, zT, zZ, zS]
       (refine ztn (v := ?_) (zo rfl) ?_; try simp only [Act.put, zT, zZ, zS])
       refine zr1 5 (zo rfl) (fun K hK => ?_)
       rw [zl (by rfl)]
       refine wp_store_mid _ _ _ rfl (w.heap.size + 1) 0 zs.toArray rfl (by rw [HZS.out]; rfl) HTH.out HZJ.out HZO.out ?_
       refine hK.out _ _ (HS2.out w5 _ HF5.out (HRZ.out.lay HM5.out.rep rfl).2.2) (fun hHeld => ?_)
       clear hK K
       try simp only [Act.put, zT, zZ, zS]
       refine wpAnyH_done (by kernel_rfl) ?_ _
       go_wp2_with fail
       obtain ⟨E1, E2, E3⟩ := HM5.out.end_ HRZ.out HZZ.out
       exact zi (v := .agg zs.toArray) (jH (B := w.heap.size) Tryz.results87 rfl E1 E2) rfl (by rw [HV3.out]; exact ⟨_, rfl, E2.v, by rw [← HABS.out]; exact E3⟩)
     ·have hlti : decide ((i : Int) < (fl : Int)) = false := zb (by omega)
      have hltj : ¬ (i : Int) < (fl : Int) := by omega
      have hltn : decide (i < fl) = false := zb hlt
      have HAI : Hid (atM c.fl M.fs = i) := zh (by have := HATI.out; rw [List.drop_eq_nil_of_le (by rw [← HFLN.out]; omega)] at this; simpa [atM] using this)
      go_wp2_with fail
      refine zj (S := (fun w' => w'.cell? ⟨b, 2, none⟩ = some (.slice M.FA fl M.fc) ∧ w'.cell? ⟨w.heap.size, 2, none⟩ = some (.int .i64 c.fl))) (by kernel_rfl) (⟨xb, x2⟩) (fun hHeld => ?_)
      iterate 8 ((first | refine ztn (v := ?_) (zo rfl) ?_ | refine ztz (v := ?_) (zo rfl) ?_); try simp only [Act.put, zT, zZ, zS])
      refine wpAnyH_take (i := 8) (v := undef) (zo rfl) (by kernel_rfl) (by kernel_rfl) (by kernel_rfl) (fun _ _ _ h => h) (Or.inr ⟨by rfl, rfl⟩) (by assumption) ?_
      try simp only [Act.put, zT, zZ, zS]
      refine wpAnyH_take (i := 9) (v := undef) (zo rfl) (by kernel_rfl) (by kernel_rfl) (by kernel_rfl) (fun _ _ _ h => h) (Or.inr ⟨by rfl, rfl⟩) (by assumption) ?_
      try simp only [Act.put, zT, zZ, zS]
      refine wpAnyH_take (i := 10) (v := undef) (zo rfl) (by kernel_rfl) (by kernel_rfl) (by kernel_rfl) (fun _ _ _ h => h) (Or.inr ⟨by rfl, rfl⟩) (by assumption) ?_
      try simp only [Act.put, zT, zZ, zS]
      refine wpAnyH_take (i := 11) (v := undef) (zo rfl) (by kernel_rfl) (by kernel_rfl) (by kernel_rfl) (fun _ _ _ h => h) (Or.inr ⟨by rfl, rfl⟩) (by assumption) ?_
      try simp only [Act.put, zT, zZ, zS]
      refine wpAnyH_take (i := 12) (v := undef) (zo rfl) (by kernel_rfl) (by kernel_rfl) (by kernel_rfl) (fun _ _ _ h => h) (Or.inr ⟨by rfl, rfl⟩) (by assumption) ?_
      try simp only [Act.put, zT, zZ, zS]
      refine wpAnyH_take (i := 13) (v := undef) (zo rfl) (by kernel_rfl) (by kernel_rfl) (by kernel_rfl) (fun _ _ _ h => h) (Or.inr ⟨by rfl, rfl⟩) (by assumption) ?_
      try simp only [Act.put, zT, zZ, zS]
      refine wpAnyH_take (i := 14) (v := undef) (zo rfl) (by kernel_rfl) (by kernel_rfl) (by kernel_rfl) (fun _ _ _ h => h) (Or.inr ⟨by rfl, rfl⟩) (by assumption) ?_
      try simp only [Act.put, zT, zZ, zS]
      refine wpAnyH_take (i := 15) (v := undef) (zo rfl) (by kernel_rfl) (by kernel_rfl) (by kernel_rfl) (fun _ _ _ h => h) (Or.inr ⟨by rfl, rfl⟩) (by assumption) ?_
      try simp only [Act.put, zT, zZ, zS]
      refine wpAnyH_take (i := 16) (v := undef) (zo rfl) (by kernel_rfl) (by kernel_rfl) (by kernel_rfl) (fun _ _ _ h => h) (Or.inr ⟨by rfl, rfl⟩) (by assumption) ?_
      try simp only [Act.put, zT, zZ, zS]
      refine wpAnyH_take (i := 17) (v := undef) (zo rfl) (by kernel_rfl) (by kernel_rfl) (by kernel_rfl) (fun _ _ _ h => h) (Or.inr ⟨by rfl, rfl⟩) (by assumption) ?_
      try simp only [Act.put, zT, zZ, zS]
      refine wpAnyH_take (i := 18) (v := undef) (zo rfl) (by kernel_rfl) (by kernel_rfl) (by kernel_rfl) (fun _ _ _ h => h) (Or.inr ⟨by rfl, rfl⟩) (by assumption) ?_
      try simp only [Act.put, zT, zZ, zS]
      refine wpAnyH_take (i := 19) (v := undef) (zo rfl) (by kernel_rfl) (by kernel_rfl) (by kernel_rfl) (fun _ _ _ h => h) (Or.inr ⟨by rfl, rfl⟩) (by assumption) ?_
      try simp only [Act.put, zT, zZ, zS]
      refine wpAnyH_take (i := 20) (v := undef) (zo rfl) (by kernel_rfl) (by kernel_rfl) (by kernel_rfl) (fun _ _ _ h => h) (Or.inr ⟨by rfl, rfl⟩) (by assumption) ?_
      try simp only [Act.put, zT, zZ, zS]
      refine wpAnyH_take (i := 21) (v := undef) (zo rfl) (by kernel_rfl) (by kernel_rfl) (by kernel_rfl) (fun _ _ _ h => h) (Or.inr ⟨by rfl, rfl⟩) (by assumption) ?_
      try simp only [Act.put, zT, zZ, zS]
      (refine ztn (v := ?_) (zo rfl) ?_; try simp only [Act.put, zT, zZ, zS])
      refine wpAnyH_done (by kernel_rfl) ?_ _
      clear hlt
      obtain ⟨Y, hY⟩ : ∃ Y, wr.drew = Y := ⟨_, rfl⟩
      have HMY : Hid (Mid w Y cz B b n M) := zh (by rw [← hY]; exact HX.out.fresh HFR.out)
      have HFY : Hid (Fresh X Y) := zh (by rw [← hY]; exact HFR.out)
      rw [hY]
      clear hY HFR HMR HFX HATI
      have hfl := HFLN.out
      have him : i ≤ M.fs.length := by omega
      obtain ⟨A1, A2', hcut⟩ := cuts_sl 84 i0 Tryz.underlying84 hii hz1 HMY.out.at_.fsl i him
      obtain ⟨q1, q2, q3, q4⟩ := hcut
      rw [flat_take4 pcel 2 (fun _ => rfl)] at q3
      rw [flat_drop4 pcel 2 (fun _ => rfl)] at q4
      rw [← hfl] at q1 q2
      have RT := zh (q3.alloc (zf _) (.cells #[] 134))
      have RD : Hid (∀ w', Fresh Y w' → Rd w' Y.heap.size A2' ((M.fs.drop i).flatMap pcel)) := zh fun w' F => q4.fresh (zf _) F
      have S0 := zh (nil_sl Y 134 2)
      have HL1 : Hid (((M.fs.take i).flatMap pcel).length = i * 2) := zh (by rw [flat_len pcel 2 (fun _ => rfl), zw, Nat.min_eq_left him])
      have HL2 : Hid (((M.fs.drop i).flatMap pcel).length = (fl - i) * 2) := zh (by rw [flat_len pcel 2 (fun _ => rfl), zN, hfl])
      have HE0 := zh (jC Y (.cells #[] 134))
      have HYA : Hid (∀ w', Fresh Y w' → w'.cell? ⟨b, 2, none⟩ = some (.slice M.FA fl M.fc)) := zh fun w' F => by rw [hfl]; exact (HMY.out.fresh F).at_.blk.cell 2
      have HZA : Hid (∀ w', Fresh Y w' → w'.frozen? ⟨b, 2, none⟩ = false) := zh fun w' F => (HMY.out.fresh F).at_.blk.frozen 2
      have y5 := HYA.out _ HE0.out
      clear hfl
      clear q3 q4
      go_wp2_with (first
       | (at_builtin; refine jK (by rfl) (.tmp 61) (.tmp 67) _ rfl Y 134 i0 _ 2 16 Tryz.underlying84 hii hz0 hz1 hz2 rfl (by omega) _ 0 [] rfl S0.out _ _ i _ _ rfl HL1.out RT.out (pcel_one _) (by omega) (by omega) HE0.out ?_; intro v6 x6 hs6 hf6; have HS6 := zh ((hs6.alloc (.cells #[.slice none 0 0] 138)).alloc (.cells #[.pointer (some ⟨f, 0, none⟩), .pointer (some ⟨x6.heap.size, 0, none⟩)] 134)); have HR6 : Hid (Rd ((x6.alloc (.cells #[.slice none 0 0] 138)).alloc (.cells #[.pointer (some ⟨f, 0, none⟩), .pointer (some ⟨x6.heap.size, 0, none⟩)] 134)) (x6.heap.size + 2) (some ⟨x6.heap.size + 1, 0, none⟩) [.pointer (some ⟨f, 0, none⟩), .pointer (some ⟨x6.heap.size, 0, none⟩)]) := zh (by have h1 := jL (x6.alloc (.cells #[.slice none 0 0] 138)) [.pointer (some ⟨f, 0, none⟩), .pointer (some ⟨x6.heap.size, 0, none⟩)] 134; rw [zJ] at h1; exact h1); have HF6 := zh ((hf6.alloc (.cells #[.slice none 0 0] 138)).alloc (.cells #[.pointer (some ⟨f, 0, none⟩), .pointer (some ⟨x6.heap.size, 0, none⟩)] 134)); have HQ6 : Hid (Blk ((x6.alloc (.cells #[.slice none 0 0] 138)).alloc (.cells #[.pointer (some ⟨f, 0, none⟩), .pointer (some ⟨x6.heap.size, 0, none⟩)] 134)) x6.heap.size 138 #[.slice none 0 0]) := zh ((Blk.new x6 _ _).alloc _); have HX6 : Hid (Y.heap.size ≤ x6.heap.size) := zh hf6.size; clear hs6 hf6)
       | (at_builtin; refine jD _ rfl (.tmp 69) (.tmp 74) _ rfl Y.heap.size 134 i0 _ 2 16 Tryz.underlying84 hii hz0 hz1 hz2 rfl (by omega) v6 (0 + i) _ rfl HS6.out _ (some ⟨x6.heap.size + 1, 0, none⟩) 1 1 [.pointer (some ⟨f, 0, none⟩), .pointer (some ⟨x6.heap.size, 0, none⟩)] rfl (by rfl) HR6.out (by intro u hu; simp at hu; rcases hu with rfl | rfl <;> rfl) (by unfold maxLen; omega) (by omega) (HF6.out.size) ?_; intro v7 x7 hs7 hf7 _; have HS7 := zh hs7; have HF7 : Hid (Fresh Y x7) := zh (HF6.out.trans' hf7 (fun k hk e => by have := (HS6.out.lt k e).1; omega)); have HQ7 : Hid (Blk x7 x6.heap.size 138 #[.slice none 0 0]) := zh (HQ6.out.frm hf7 (fun e => by obtain ⟨cs, hc, _⟩ := HS6.out.has e; exact hc.apart HQ6.out (by decide) rfl)); have y7 := HYA.out x7 HF7.out; clear hs7 hf7)
       | (at_builtin; refine jD _ rfl (.tmp 77) (.tmp 83) _ rfl Y.heap.size 134 i0 _ 2 16 Tryz.underlying84 hii hz0 hz1 hz2 rfl (by omega) v7 (0 + i + 1) _ rfl HS7.out Y.heap.size A2' (fl - i) _ _ rfl HL2.out (RD.out x7 HF7.out) (pcel_one _) (by unfold maxLen; omega) (by omega) (HF7.out.size) ?_; intro v8 x8 hs8 hf8 _; obtain ⟨nl, hnl⟩ : ∃ z, z = 0 + i + 1 + (fl - i) := ⟨_, rfl⟩; rw [← hnl] at hs8; have HNL := zh hnl; clear hnl; have HF8 : Hid (Fresh Y x8) := zh (HF7.out.trans' hf8 (fun k hk e => by have := (HS7.out.lt k e).1; omega)); have HQ8 : Hid (Blk x8 x6.heap.size 138 #[.slice none 0 0]) := zh (HQ7.out.frm hf8 (fun e => by obtain ⟨cs, hc, _⟩ := HS7.out.has e; exact hc.apart HQ7.out (by decide) rfl)); obtain ⟨A3, c3, rfl, _⟩ := hs8.shape; have HS8 := zh hs8; have y8 := HYA.out x8 HF8.out; have z8 := HZA.out x8 HF8.out; clear hs8 hf8))
      clear y5 y7 y8 z8 q1 q2 RT RD S0 HL1 HL2 HE0 HS6 HR6 HF6 HQ6 HS7 HF7 HQ7 HYA HZA
      obtain ⟨Z, hZ⟩ : ∃ Z, x8.setCell ⟨b, 2, none⟩ (.slice A3 nl c3) = Z := ⟨_, rfl⟩
      rw [hZ]
      obtain ⟨M', HMZ, HABS, HFZ⟩ : ∃ M' : BkM, Hid (Mid w Z cz B b n M') ∧ Hid (M'.abs = { M.abs with fs := M.abs.fs.take i ++ [⟨nr.2, []⟩] ++ M.abs.fs.drop i }) ∧ Hid (FlAt Z B f m) := by
       have hfl := HFLN.out
       have e1 : (insP M.fs i ⟨f, m, x6.heap.size, .slice none 0 0, []⟩).length = nl := by rw [insP_len _ him, ← hfl, HNL.out]
       have e2 := insP_flat M.fs i ⟨f, m, x6.heap.size, .slice none 0 0, []⟩
       have hYB : B ≤ Y.heap.size := zp HBW.out (zp HFW.out.size HFY.out.size)
       have h := BookAt.openF (A3 := A3) (c3 := c3) (i := i) (x := ⟨f, m, x6.heap.size, .slice none 0 0, []⟩) HM0.out.at_ (HFW.out.trans (HFY.out.trans HF8.out)) ((HFA.out.fresh (HFY.out.trans HF8.out)).less HBW.out) ⟨HQ8.out, zp hYB HX6.out, Sl.nil _ _ _ _⟩ HFB.out (zp (zp HFW.out.size HFY.out.size) HX6.out) HHB.out HBW.out (by rw [e1, e2]; exact HS8.out.less hYB)
       rw [e1, hZ] at h
       have ha := insP_abs M i ⟨f, m, x6.heap.size, .slice none 0 0, []⟩
       have hx : PlM.abs ⟨f, m, x6.heap.size, .slice none 0 0, []⟩ = ⟨nr.2, []⟩ := by rw [← HMA.out]; rfl
       rw [hx] at ha
       have hab : ({ M with FA := A3, fc := c3, fs := insP M.fs i ⟨f, m, x6.heap.size, .slice none 0 0, []⟩ } : BkM).abs = { M.abs with fs := M.abs.fs.take i ++ [⟨nr.2, []⟩] ++ M.abs.fs.drop i } := by
        show ({ M.abs with fs := (insP M.fs i ⟨f, m, x6.heap.size, .slice none 0 0, []⟩).map PlM.abs } : Book) = _
        rw [ha]
       have hok := HOK.out
       rw [HAI.out] at hok
       refine ⟨_, zh ((HMY.out.fresh HF8.out).step h.2 h.1 (by rw [hab]; exact hok)), zh hab, zh (h.1.fl ⟨f, m, x6.heap.size, .slice none 0 0, []⟩ ?_).1⟩
       show _ ∈ insP M.fs i ⟨f, m, x6.heap.size, .slice none 0 0, []⟩
       unfold insP
       simp
      have HV2 := HV.out
      rw [HAI.out] at HV2
      have HV3 := zh HV2
      have hms : m.hs = [] := by
       have h := HHS.out
       rw [← HMA.out] at h
       simpa [FlM.abs] using h
      have hml : m.lims.length ≤ 8 := by
       have h := HFO.out.few.2
       rw [← HMA.out] at h
       exact h
      have HLE := zh (left15_any Z.drew B f m (HFZ.out.fresh (za _ _).drew) (by rw [hms]; simp) hml (by rw [hms]; simp) (by rw [hms]; simp))
      rw [HMA.out] at HLE
      clear HV2 hms hml hZ HV HOK HMY HFY HFW HFA HFO HHS HHB HFB HMA HX HFLN HNL HS8 HQ8 HX6 HF8 HAI HFZ him
      generalize leftA nr.2 = lf at HLE HV3
      have HZZ : Hid (w.heap.size ≤ Z.heap.size) := zh (jA (zR HMZ.out.size))
      have HSS : Hid (∀ w', Fresh Z w' → w'.cell? ⟨w.heap.size, 2, none⟩ = some (.int .i64 c.fl)) := zh fun w' F => (HCF.out w' (HMZ.out.fresh F).cmd).1
      have HS2 : Hid (∀ w' w'', Fresh Z w' → Frm (fun k => k = w.heap.size + 1) w' w'' → w''.cell? ⟨w.heap.size, 2, none⟩ = some (.int .i64 c.fl)) := zh fun w' w'' F G => (G.cell (p := ⟨w.heap.size, 2, none⟩) (HMZ.out.fresh F).cmd.lt (by show ¬ w.heap.size = w.heap.size + 1; omega)).trans (HSS.out w' F)
      go_wp2_with fail
      refine zj (S := (fun w' => w'.cell? ⟨w.heap.size, 2, none⟩ = some (.int .i64 c.fl))) (by kernel_rfl) (HSS.out _ ((za _ _).drew)) (fun hHeld => ?_)
      iterate 3 ((first | refine ztn (v := ?_) (zo rfl) ?_ | refine ztz (v := ?_) (zo rfl) ?_); try simp only [Act.put, zT, zZ, zS])
      refine zr1 3 (zo rfl) (fun K hK => ?_)
      go_simp
      refine (HLE.out).mono ?_
      rintro e w5 ⟨v5, rfl, s5, f5⟩
      obtain ⟨A5, c5, rfl, _⟩ := s5.shape
      have HF5 : Hid (Fresh Z w5) := zh ((za _ _).drew.trans f5)
      have HM5 := zh (HMZ.out.fresh HF5.out)
      obtain ⟨zs, hzs⟩ : ∃ zs : List Value, zs = [.int .i64 0, .string ⟨#[]⟩, .int .i64 0, .int .i64 c.fl, .int .i64 0, .int .i64 0, .int .i64 0, .slice A5 lf.length c5, .slice none 0 0] := ⟨_, rfl⟩
      have HRZ : Hid (RepZ w5 Z.heap.size zs ({ repC 0 with fl := c.fl, left := lf })) := zh (by rw [hzs]; exact ⟨A5, c5, none, 0, rfl, s5, Sl.nil _ _ _ _⟩)
      have HZS := zh hzs
      have HTH := zh (HM5.out.there HRZ.out)
      have HZJ := zh HRZ.out.info
      have HZO := zh HRZ.out.one
      clear s5 f5 hzs
      refine hK.out _ _ (HSS.out _ HF5.out) (fun hHeld => ?_)
      clear hK K
      try simp only [Act.put, zT, zZ, zS]
      (refine ztn (v := ?_) (zo rfl) ?_; try simp only [Act.put, zT, zZ, zS])
      refine zr1 5 (zo rfl) (fun K hK => ?_)
      rw [zl (by rfl)]
      refine wp_store_mid _ _ _ rfl (w.heap.size + 1) 0 zs.toArray rfl (by rw [HZS.out]; rfl) HTH.out HZJ.out HZO.out ?_
      refine hK.out _ _ (HS2.out w5 _ HF5.out (HRZ.out.lay HM5.out.rep rfl).2.2) (fun hHeld => ?_)
      clear hK K
      try simp only [Act.put, zT, zZ, zS]
      refine wpAnyH_done (by kernel_rfl) ?_ _
      go_wp2_with fail
      obtain ⟨E1, E2, E3⟩ := HM5.out.end_ HRZ.out HZZ.out
      exact zi (v := .agg zs.toArray) (jH (B := w.heap.size) Tryz.results87 rfl E1 E2) rfl (by rw [HV3.out]; exact ⟨_, rfl, E2.v, by rw [← HABS.out]; exact E3⟩)
end
end Go.Proofs.YtnmokpbomeamfaaGreat

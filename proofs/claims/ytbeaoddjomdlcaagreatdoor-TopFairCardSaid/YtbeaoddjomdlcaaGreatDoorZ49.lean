/- Proved here, for the statement TopFairCardSaid: laws that its walk leans on. It holds with no condition. (Put together and shortened by a program out of many texts: To67, To68, To69, To70.) -/
import Derived.Test.YtbeaoddjomdlcaaGreatDoorZ48
set_option linter.unusedVariables false
set_option linter.unusedSimpArgs false
set_option maxRecDepth 100000
set_option maxHeartbeats 64000000
namespace Go.Proofs.YtbeaoddjomdlcaaGreatDoor
section
open Go.RowKit
open QueueM (Wt)
structure WL where
  A : Option Addr
  c : Nat
  ws : List Wt
def WL.val (x : WL) : Value := .slice x.A x.ws.length x.c
def WaitPost (w : World) (b : BoM) (e : Ending) (w' : World) : Prop :=
  ∃ (v : Value) (l : List WL), e = .returned v ∧ Sl w' w.heap.size 40 1 v l.length (l.map WL.val) ∧ (∀ x ∈ l, Sl w' w.heap.size 69 5 x.val x.ws.length (x.ws.flatMap wcells) ∧ x.ws.length ≤ 200) ∧ Fresh w w' ∧ l.length ≤ 8 ∧
    (l = [] ∨ ∃ ns : List Int, ns.Pairwise (· < ·) ∧ (∀ k, k ∈ ns ↔ (b.P k).isSome = true) ∧ l.map WL.ws = ns.map (wsOf b))
theorem info_ws : (Tryz.prog.info? 40).map (fun i => (i.zero, i.size, i.bytes)) = some (some (.slice none 0 0), 1, 24) := by kernel_rfl
theorem waiting_any (w : World) (B : Nat) (hB : B ≤ w.heap.size) (b : BoM) (h : BookP w B b) :
    Calls Tryz.prog 6 #[.pointer (some ⟨b.b, 0, none⟩)] w fun e w' => WaitPost w b e w' := by
  obtain ⟨iw, hiw, hw0, hw1, hw2⟩ := info_parts info_ws
  have HSV := zh (save_any w B hB b h)
  have HH := zh h
  clear h
  go_in
  go_wp2_with fail
  refine HSV.out.mono ?_
  rintro e w1 ⟨v, ps, ns, tl, rfl, hsl, f1, hpw, hks, hpm, hn8, hbl, hpl⟩
  obtain ⟨A, cap, rfl, hle, hm, _⟩ := hsl.shape
  have HF1 := zh f1
  have HLD := zh (load_any w1 A cap _ hsl.rd (by omega) hle hm)
  have HNS : Hid (ns.Pairwise (· < ·) ∧ (∀ k, k ∈ ns ↔ (b.P k).isSome = true)) := zh ⟨hpw, hks⟩
  have HLAW : Hid (∀ qs z, loadQ (rdn 8 (rdn 28629151 (rdn 1099511627776 (saveB b.tm b.nx ps tl, false)).2).2).1 (rdn 8 (rdn 28629151 (rdn 1099511627776 (saveB b.tm b.nx ps tl, false)).2).2).2 = some (qs, z) → qs = ns.map (wsOf b)) := zh fun qs z hq => by
    rw [← hpm]
    have hpl8 : ps.length ≤ 8 := by
      have : (ps.map Prod.snd).length = (ns.map (wsOf b)).length := by rw [hpm]
      simp at this
      omega
    refine load_save HH.out.tw HH.out.nw hpl8 (fun p hp => ?_) hq
    have hm2 : p.2 ∈ ns.map (wsOf b) := by rw [← hpm]; exact List.mem_map.2 ⟨p, hp, rfl⟩
    obtain ⟨k, hk, e⟩ := List.mem_map.1 hm2
    obtain ⟨x, hx⟩ := Option.isSome_iff_exists.1 ((hks k).1 hk)
    have hP := (HH.out.pl k x hx).1
    rw [wsOf_some hx] at e
    exact ⟨by have := hpl p hp; omega, by rw [← e]; exact hP.g, by rw [← e]; exact hP.wd⟩
  generalize saveB b.tm b.nx ps tl = bs at HLD HLAW
  clear hsl f1 hpw hks hpm hn8 hbl hpl hle hm HSV
  go_wp2_with fail
  refine HLD.out.mono ?_
  rintro e w2 ⟨f2, h2⟩
  have HF2 : Hid (Fresh w w2) := zh (HF1.out.trans f2)
  rcases h2 with rfl | ⟨c, M, z, rfl, hb, h8, hq, hws⟩
  · clear f2
    go_wp2_with fail
    go_ret
    exact ⟨_, [], rfl, Sl.nil _ _ _ _, (fun x hx => by cases hx), HF2.out, by simp, .inl rfl⟩
  have HQ : Hid (M.fs.map PlD.ws = ns.map (wsOf b)) := zh (HLAW.out _ _ hq)
  have HBK := zh hb
  have HWS := zh hws
  have HP : Hid (∀ w', Fresh w2 w' → ∀ k (hk : k < M.fs.length), ∃ g o A c', M.FA = some ⟨g, o, none⟩ ∧ w'.cell? ⟨g, o + k * 2 + 1, none⟩ = some (.pointer (some ⟨M.fs[k].q, 0, none⟩)) ∧ w'.cell? ⟨M.fs[k].q, 0, none⟩ = some (.slice A M.fs[k].ws.length c') ∧ Sl w' w.heap.size 69 5 (.slice A M.fs[k].ws.length c') M.fs[k].ws.length (M.fs[k].ws.flatMap wcells)) := zh fun w' F k hk => by
    have hq := hb.fresh F
    obtain ⟨g, o, e, _, _, c1⟩ := hq.place hk
    have hq2 := hq.qu _ (List.getElem_mem hk)
    obtain ⟨A, c', ev, _⟩ := hq2.sl.shape
    have hsl := hq2.sl
    rw [ev] at hsl
    exact ⟨g, o, A, c', e, c1, by have := hq2.blk.cell 0; rw [ev] at this; exact this, hsl.less HF1.out.size⟩
  have HY : Hid (∀ w', Fresh w2 w' → w'.cell? ⟨c, 2, none⟩ = some (.slice M.FA M.fs.length M.fc)) := zh fun w' F => (hb.fresh F).cells.2.2.1
  clear hb hq hws f2 HLAW HBK HLD
  go_wp2_with fail
  go_loopw [5, 6] (fun v5 v6 wr => ∃ (i : Nat) (l : List WL), i ≤ M.fs.length ∧ v6 = .int .i64 (i : Int) ∧ Sl wr w2.heap.size 40 1 v5 l.length (l.map WL.val) ∧ l.length = i ∧ l.map WL.ws = (M.fs.take i).map PlD.ws ∧ (∀ x ∈ l, Sl wr w.heap.size 69 5 x.val x.ws.length (x.ws.flatMap wcells)) ∧ Fresh w2 wr) (fun _ v6 _ => M.fs.length - (RowKit.intOf v6).toNat)
  case atStart => exact ⟨0, [], by omega, rfl, Sl.nil _ _ _ _, rfl, rfl, (fun x hx => by cases hx), Frm.refl _ _⟩
  case round =>
    obtain ⟨i, l, hi, rfl, hsl, hll, hlw, hrd, hf⟩ := hrel
    have HSL := zh hsl
    have HLL := zh hll
    have HLW := zh hlw
    have HRD := zh hrd
    have HF := zh hf
    have hi0 : (0 : Int) ≤ (i : Int) := by omega
    obtain ⟨AL, cl, rfl, _⟩ := hsl.shape
    have hl8 : l.length ≤ 8 := by omega
    have y2 := HY.out wr hf
    clear hsl hll hlw hrd hf
    by_cases hlt : i < M.fs.length
    · have hlti : (i : Int) < (M.fs.length : Int) := by omega
      have HNX : Hid (∀ x : WL, x.ws = M.fs[i].ws → (l ++ [x]).map WL.ws = (M.fs.take (i + 1)).map PlD.ws) := zh fun x hx => by
        rw [List.map_append, HLW.out, List.take_succ_eq_append_getElem hlt, List.map_append, List.map_singleton, List.map_singleton, hx]
      obtain ⟨g, o, A, c', hFA, c1, c2, hrd⟩ := HP.out wr HF.out i hlt
      rw [hFA] at y2
      have HRX := zh hrd
      generalize M.fs[i] = p at c1 c2 HRX HNX
      obtain ⟨V, hV⟩ : ∃ V, wr.alloc (.cells #[.slice A p.ws.length c'] 40) = V := ⟨_, rfl⟩
      have HFV : Hid (Fresh wr V) := zh (by rw [← hV]; exact (Frm.refl _ _).alloc _)
      have HSA : Hid (Sl V w2.heap.size 40 1 (.slice AL l.length cl) l.length (l.map WL.val)) := zh (HSL.out.fresh HFV.out)
      have HRA : Hid (Rd V (wr.heap.size + 1) (some ⟨wr.heap.size, 0, none⟩) [.slice A p.ws.length c']) := zh (by rw [← hV]; exact rd_one wr _ _)
      have HSZ : Hid (w2.heap.size ≤ V.heap.size) := zh (Nat.le_trans HF.out.size HFV.out.size)
      clear hFA hrd
      go_wp2_with (at_builtin; refine wpList_append_sl _ rfl (.tmp 24) (.tmp 36) _ rfl w2.heap.size 40 iw _ 1 24 Tryz.underlying37 hiw hw0 hw1 hw2 rfl (by omega) _ l.length _ rfl HSA.out _ _ 1 _ _ rfl (by rfl) HRA.out (by intro u hu; simp at hu; subst hu; rfl) (by unfold maxLen; omega) (by omega) HSZ.out ?_; intro v5 w5 hs5 hf5 ha5)
      have HS5 : Hid (Sl w5 w2.heap.size 40 1 v5 (l ++ [(⟨A, c', p.ws⟩ : WL)]).length ((l ++ [(⟨A, c', p.ws⟩ : WL)]).map WL.val)) := zh (by
        rw [List.length_append, List.length_singleton, List.map_append]
        exact hs5)
      have HW5 : Hid (∀ x : WL, Sl wr w.heap.size 69 5 x.val x.ws.length (x.ws.flatMap wcells) → Sl w5 w.heap.size 69 5 x.val x.ws.length (x.ws.flatMap wcells)) := zh fun x hx => (hx.fresh HFV.out).frm hf5 (fun k hk hk2 => by
        obtain ⟨_, cs, hc⟩ := own_type (hx.fresh HFV.out) hk
        obtain ⟨_, cs2, hc2⟩ := own_type HSA.out hk2
        exact hc.apart hc2 (by decide) rfl)
      have HF5 : Hid (Fresh w2 w5) := zh ((HF.out.trans HFV.out).trans' hf5 (fun k hk hk2 => by
        have := (HSA.out.lt k hk2).1
        omega))
      clear hs5 hf5 ha5
      go_wp2_with fail
      go_roundw
      case rel => first | exact ⟨i + 1, l ++ [⟨A, c', p.ws⟩], by omega, by go_num, HS5.out, by rw [List.length_append, HLL.out]; rfl, HNX.out ⟨A, c', p.ws⟩ rfl, (fun x hx => by
        rcases List.mem_append.1 hx with hx | hx
        · exact HW5.out x (HRD.out x hx)
        · rw [List.mem_singleton] at hx; rw [hx]; exact HW5.out ⟨A, c', p.ws⟩ HRX.out), HF5.out⟩ | trace_state
      case measure => first | (simp [RowKit.intOf]; omega) | (simp [RowKit.intOf]; omega) | (simp; omega) | omega | trace_state
    · have hlti : ¬ (i : Int) < (M.fs.length : Int) := by omega
      go_wp2_with fail
      go_ret
      refine ⟨_, l, rfl, HSL.out.less HF2.out.size, (fun x hx => ⟨HRD.out x hx, ?_⟩), HF2.out.trans HF.out, hl8, .inr ⟨ns, HNS.out.1, HNS.out.2, ?_⟩⟩
      · have : x.ws ∈ (M.fs.take i).map PlD.ws := by rw [← HLW.out]; exact List.mem_map.2 ⟨x, hx, rfl⟩
        obtain ⟨p, hp, e⟩ := List.mem_map.1 this
        rw [← e]
        exact HWS.out p (List.mem_of_mem_take hp)
      · rw [HLW.out, List.take_of_length_le (by omega)]
        exact HQ.out
theorem five_range {w : World} {g o : Nat} {x : Wt} (h : Five w g o x) : w.rangeAt g o (wcells x) := fun j u hu => by
  obtain ⟨h0, h1, h2, h3, h4⟩ := h
  match j, hu with
  | 0, hu => simp [wcells] at hu; rw [← hu]; exact h0
  | 1, hu => simp [wcells] at hu; rw [← hu]; exact h1
  | 2, hu => simp [wcells] at hu; rw [← hu]; exact h2
  | 3, hu => simp [wcells] at hu; rw [← hu]; exact h3
  | 4, hu => simp [wcells] at hu; rw [← hu]; exact h4
  | n + 5, hu => simp [wcells] at hu
theorem fairly_any (w : World) (A C : Option Addr) (ca cc : Nat) (la lb : List Wt) (hA : Rd w w.heap.size A (la.flatMap wcells)) (hC : Rd w w.heap.size C (lb.flatMap wcells)) (h1 : la.length ≤ 1000) (h2 : lb.length ≤ 1000)
    (hf : ∀ a ∈ la, (∀ b ∈ lb, b.id ≠ a.id) → ∀ b ∈ lb, b.cls = a.cls → b.many = a.many → QueueM.ahead a b = true) :
    Calls Tryz.prog 7 #[.slice A la.length ca, .slice C lb.length cc] w fun e w' => e = .returned (.bool true) ∧ Fresh w w' := by
  have HA : Hid (∀ w', Fresh w w' → Rd w' w'.heap.size A (la.flatMap wcells)) := zh fun w' F => (hA.fresh (Nat.le_refl _) F).more F.size
  have HC : Hid (∀ w', Fresh w w' → Rd w' w'.heap.size C (lb.flatMap wcells)) := zh fun w' F => (hC.fresh (Nat.le_refl _) F).more F.size
  have HFA := zh hf
  clear hA hC hf
  go_in
  go_wp2_with fail
  go_loopw [5] (fun v5 wr => ∃ i : Nat, i ≤ la.length ∧ v5 = .int .i64 (i : Int) ∧ Fresh w wr) (fun v5 _ => la.length - (RowKit.intOf v5).toNat)
  case atStart => exact ⟨0, by omega, rfl, Frm.refl _ _⟩
  case round =>
    obtain ⟨i, hi, rfl, hfr⟩ := hrel
    have HF := zh hfr
    have hi0 : (0 : Int) ≤ (i : Int) := by omega
    clear hfr
    by_cases hlt : i < la.length
    rotate_left 1
    · have hlti : ¬ (i : Int) < (la.length : Int) := by omega
      go_wp2_with fail
      exact bodyPost_ret (v := .bool true) (by simp [results, Tryz.results7, go_sem]) rfl ⟨rfl, HF.out⟩
    have hlti : (i : Int) < (la.length : Int) := by omega
    obtain ⟨ga, oa, hAe, _, _⟩ := five_at (HA.out wr HF.out) hlt
    subst hAe
    have HAX : Hid (∀ w', Fresh w w' → Five w' ga (oa + i * 5) la[i]) := zh fun w' F => by
      obtain ⟨g2, o2, e2, _, q⟩ := five_at (HA.out w' F) hlt
      injection e2 with e2
      injection e2 with e3 e4 _
      subst e3 e4
      exact q
    have HFX := zh (HFA.out _ (List.getElem_mem hlt))
    generalize la[i] = a at HAX HFX
    go_wp2_with fail
    go_loopw [6, 7] (fun v6 v7 wr => ∃ (k : Nat) (g : Bool), k ≤ lb.length ∧ v7 = .int .i64 (k : Int) ∧ v6 = .bool g ∧ (g = true → ∀ b ∈ lb.take k, b.id ≠ a.id) ∧ Fresh w wr) (fun _ v7 _ => lb.length - (RowKit.intOf v7).toNat)
    case atStart => exact ⟨0, true, by omega, rfl, rfl, (fun _ => by simp), HF.out⟩
    case round =>
      clear HF
      obtain ⟨k, g, hk, rfl, rfl, hg, hfr⟩ := hrel
      have HF := zh hfr
      have HG := zh hg
      have hk0 : (0 : Int) ≤ (k : Int) := by omega
      clear hfr hg
      by_cases hlk : k < lb.length
      · have hlki : (k : Int) < (lb.length : Int) := by omega
        obtain ⟨a0, _⟩ := HAX.out wr HF.out
        obtain ⟨gb, ob, rfl, _, b0, _⟩ := five_at (HC.out wr HF.out) hlk
        have HNX : Hid (lb[k].id ≠ a.id → g = true → ∀ b ∈ lb.take (k + 1), b.id ≠ a.id) := zh fun hne hgt b hb => by
          rw [List.take_succ_eq_append_getElem hlk] at hb
          rcases List.mem_append.1 hb with hb | hb
          · exact HG.out hgt b hb
          · rw [List.mem_singleton] at hb; rw [hb]; exact hne
        generalize lb[k] = b at b0 HNX
        generalize b.id = bi at b0 HNX
        by_cases he : bi = a.id
        · have d1 : (bi == a.id) = true := by simpa using he
          have d1' : decide (bi = a.id) = true := decide_eq_true he
          rw [he] at b0
          go_wp2_with fail
          go_quiet (fail)
          go_wp2_with fail
          go_roundw
          case rel => first | exact ⟨k + 1, false, by omega, by go_num, rfl, (fun h => by cases h), HF.out.drewN _⟩ | trace_state
          case measure => simp [RowKit.intOf]; omega
        · have d1 : (bi == a.id) = false := by simpa using he
          have d1' : decide (bi = a.id) = false := decide_eq_false he
          have HNX2 := zh (HNX.out he)
          go_wp2_with fail
          go_quiet (fail)
          go_wp2_with fail
          go_roundw
          case rel => first | exact ⟨k + 1, g, by omega, by go_num, rfl, HNX2.out, HF.out.drewN _⟩ | trace_state
          case measure => simp [RowKit.intOf]; omega
      · have hlki : ¬ (k : Int) < (lb.length : Int) := by omega
        have HGA : Hid (g = true → ∀ b ∈ lb, b.id ≠ a.id) := zh fun hg => by
          have := HG.out hg
          rw [List.take_of_length_le (by omega)] at this
          exact this
        clear HG
        go_wp2_with fail
        go_loopw [8] (fun v8 wr => ∃ k : Nat, k ≤ lb.length ∧ v8 = .int .i64 (k : Int) ∧ Fresh w wr) (fun v8 _ => lb.length - (RowKit.intOf v8).toNat)
        case atStart => exact ⟨0, by omega, rfl, HF.out⟩
        case round =>
          clear HF hk hk0 hlk hlki
          obtain ⟨k, hk, rfl, hfr⟩ := hrel
          have HF := zh hfr
          have hk0 : (0 : Int) ≤ (k : Int) := by omega
          clear hfr
          by_cases hlk : k < lb.length
          rotate_left 1
          · have hlki : ¬ (k : Int) < (lb.length : Int) := by omega
            have dlk : decide ((k : Int) < (lb.length : Int)) = false := decide_eq_false hlki
            go_wp2_with fail
            go_roundw
            case rel => first | exact ⟨i + 1, by omega, by go_num, HF.out⟩ | trace_state
            case measure => simp [RowKit.intOf]; omega
          have hlki : (k : Int) < (lb.length : Int) := by omega
          have dlk : decide ((k : Int) < (lb.length : Int)) = true := decide_eq_true hlki
          cases g with
          | false =>
            go_wp2_with fail
            go_roundw
            case rel => first | exact ⟨i + 1, by omega, by go_num, HF.out⟩ | trace_state
            case measure => simp [RowKit.intOf]; omega
          | true =>
            obtain ⟨gb, ob, hCe, _, _⟩ := five_at (HC.out wr HF.out) hlk
            subst hCe
            have HBX : Hid (∀ w', Fresh w w' → Five w' gb (ob + k * 5) lb[k]) := zh fun w' F => by
              obtain ⟨g2, o2, e2, _, q⟩ := five_at (HC.out w' F) hlk
              injection e2 with e2
              injection e2 with e3 e4 _
              subst e3 e4
              exact q
            have HFXX := zh (HFX.out (HGA.out rfl) _ (List.getElem_mem hlk))
            have HAH := zh (fun w' => refAhead_any a lb[k] w')
            generalize lb[k] = b at HBX HFXX HAH
            obtain ⟨bi, bc, bm, bt, bs⟩ := b
            obtain ⟨_, a1, a2, _, _⟩ := HAX.out wr HF.out
            obtain ⟨_, b1, b2, _, _⟩ := HBX.out wr HF.out
            obtain ⟨ai, ac, am, at', as'⟩ := a
            dsimp only at HFXX a1 a2 b1 b2
            unfold wagg at HAH
            dsimp only at HAH
            obtain ⟨β, hβ⟩ : ∃ β, QueueM.ahead ⟨ai, ac, am, at', as'⟩ ⟨bi, bc, bm, bt, bs⟩ = β := ⟨_, rfl⟩
            rw [hβ] at HAH HFXX
            clear hβ
            go_upto_region 13 with fail
            go_cut [9] from 43 to 66 (fun v9 wx => ∃ γ, v9 = .bool γ ∧ (γ = true → β = true) ∧ Fresh wr wx)
            case first =>
              by_cases e1 : bc = ac
              rotate_left 1
              · have d1 : (bc == ac) = false := by simpa using e1
                have d1' : decide (bc = ac) = false := decide_eq_false e1
                go_quiet (fail)
                try go_wp2_with fail
                go_meet
                exact ⟨false, rfl, (fun h => by cases h), Frm.drewN (Frm.refl _ _) _⟩
              have d1 : (bc == ac) = true := by simpa using e1
              have d1' : decide (bc = ac) = true := decide_eq_true e1
              by_cases e2 : bm = am
              rotate_left 1
              · have d2 : (bm == am) = false := by simpa using e2
                have d2' : decide (bm = am) = false := decide_eq_false e2
                clear e1
                go_quiet (fail)
                try go_wp2_with fail
                go_meet
                exact ⟨false, rfl, (fun h => by cases h), Frm.drewN (Frm.refl _ _) _⟩
              have d2 : (bm == am) = true := by simpa using e2
              have d2' : decide (bm = am) = true := decide_eq_true e2
              have HB1 := zh (HFXX.out e1 e2)
              clear e1 e2
              go_quiet (fail)
              try go_wp2_with fail
              go_meet
              exact ⟨true, rfl, (fun _ => HB1.out), Frm.drewN (Frm.refl _ _) _⟩
            case rest =>
              obtain ⟨γ, rfl, hγ, fc⟩ := hcut
              have HFV : Hid (Fresh w wc) := zh (HF.out.trans fc)
              have HGM := zh hγ
              clear fc hγ a1 a2 b1 b2
              obtain ⟨V, hV⟩ : ∃ V, wc = V := ⟨_, rfl⟩
              rw [hV] at HFV ⊢
              clear hV
              have HS14 : Hid (∀ w', Fresh V w' → w'.rangeAt ga (oa + i * 5) [.int .i64 ai, .int .i64 ac, .int .i64 am, .int .i64 at', .float .f64 as'] ∧ w'.rangeAt gb (ob + k * 5) [.int .i64 bi, .int .i64 bc, .int .i64 bm, .int .i64 bt, .float .f64 bs]) := zh fun w' F => ⟨five_range (HAX.out w' (HFV.out.trans F)), five_range (HBX.out w' (HFV.out.trans F))⟩
              go_upto_region 14 with fail
              refine wp_region_held_drew (S := fun w' => w'.rangeAt ga (oa + i * 5) [.int .i64 ai, .int .i64 ac, .int .i64 am, .int .i64 at', .float .f64 as'] ∧ w'.rangeAt gb (ob + k * 5) [.int .i64 bi, .int .i64 bc, .int .i64 bm, .int .i64 bt, .float .f64 bs]) (by kernel_rfl) (HS14.out _ (Frm.refl _ _).drew) (fun hHeld => ?_)
              iterate 3 ((first | refine ztn (v := ?_) (zo rfl) ?_ | refine ztz (v := ?_) (zo rfl) ?_); try simp only [Act.put, zT, zZ, zS])
              refine wpAnyH_take (i := 3) (v := .agg #[.int .i64 ai, .int .i64 ac, .int .i64 am, .int .i64 at', .float .f64 as']) (zo rfl) (by kernel_rfl) (by kernel_rfl) (by kernel_rfl) (fun _ _ _ h => by first | exact h | cases h.1) (yieldsIf_load_mid (by rfl) 69 (.tmp 69) rfl ga (oa + i * 5) rfl [.int .i64 ai, .int .i64 ac, .int .i64 am, .int .i64 at', .float .f64 as'] _ (fun w' hS => hS.1) Tryz.underlying69 rfl (by kernel_rfl)) (by assumption) ?_
              try simp only [Act.put, zT, zZ, zS]
              (refine zt 4 (v := ?_) (zo rfl) ?_; try simp only [Act.put, zT, zZ, zS])
              iterate 2 (refine ztn (v := ?_) (zo rfl) ?_; try simp only [Act.put, zT, zZ, zS])
              refine wpAnyH_take (i := 7) (v := .agg #[.int .i64 bi, .int .i64 bc, .int .i64 bm, .int .i64 bt, .float .f64 bs]) (zo rfl) (by kernel_rfl) (by kernel_rfl) (by kernel_rfl) (fun _ _ _ h => by first | exact h | cases h.1) (yieldsIf_load_mid (by rfl) 69 (.tmp 73) rfl gb (ob + k * 5) rfl [.int .i64 bi, .int .i64 bc, .int .i64 bm, .int .i64 bt, .float .f64 bs] _ (fun w' hS => hS.2) Tryz.underlying69 rfl (by kernel_rfl)) (by assumption) ?_
              try simp only [Act.put, zT, zZ, zS]
              refine zr1 8 (zo rfl) (fun K hK => ?_)
              go_simp
              refine (HAH.out V.drew).mono ?_
              rintro e w9 ⟨rfl, f9⟩
              have HF9 : Hid (Fresh V w9) := zh ((Frm.refl (fun _ => False) V).drew.trans f9)
              clear f9
              refine hK.out _ _ (HS14.out _ HF9.out) (fun hHeld => ?_)
              clear hK K
              try simp only [Act.put, zT, zZ, zS]
              (refine ztn (v := ?_) (zo rfl) ?_; try simp only [Act.put, zT, zZ, zS])
              refine wpAnyH_done (by kernel_rfl) ?_ _
              have HF10 : Hid (Fresh w w9) := zh (HFV.out.trans HF9.out)
              cases γ with
              | false =>
                go_wp2_with fail
                go_roundw
                case rel => first | exact ⟨k + 1, by omega, by go_num, HF10.out⟩ | trace_state
                case measure => simp [RowKit.intOf]; omega
              | true =>
                have hb := HGM.out rfl
                subst hb
                go_wp2_with fail
                go_roundw
                case rel => first | exact ⟨k + 1, by omega, by go_num, HF10.out⟩ | trace_state
                case measure => simp [RowKit.intOf]; omega
theorem BookP.own_ge {w : World} {B : Nat} {b : BoM} (h : BookP w B b) {j : Nat} (hj : b.own j) : B ≤ j := by
  rcases hj with rfl | rfl | rfl | ⟨k, x, hx, hj⟩ | ⟨k, y, hy, rfl⟩
  · exact h.bb
  · exact h.bf
  · exact h.bk
  · exact ((h.pl k x hx).1.own_lt hj).1
  · exact (h.bo k y hy).1.ge
theorem rising_eq : ∀ (l m : List Int), l.Pairwise (· < ·) → m.Pairwise (· < ·) → (∀ k, k ∈ l ↔ k ∈ m) → l = m := by
  intro l
  induction l with
  | nil =>
    intro m _ _ h
    cases m with
    | nil => rfl
    | cons y ys => exact absurd ((h y).2 List.mem_cons_self) (by simp)
  | cons x xs ih =>
    intro m hl hm h
    cases m with
    | nil => exact absurd ((h x).1 List.mem_cons_self) (by simp)
    | cons y ys =>
      rw [List.pairwise_cons] at hl hm
      have e : x = y := by
        have h1 := (h x).1 List.mem_cons_self
        have h2 := (h y).2 List.mem_cons_self
        rcases List.mem_cons.1 h1 with h1 | h1
        · exact h1
        · rcases List.mem_cons.1 h2 with h2 | h2
          · exact h2.symm
          · have := hm.1 x h1
            have := hl.1 y h2
            omega
      subst e
      congr 1
      refine ih ys hl.2 hm.2 fun k => ⟨fun hk => ?_, fun hk => ?_⟩
      · rcases List.mem_cons.1 ((h k).1 (List.mem_cons_of_mem _ hk)) with h1 | h1
        · have := hl.1 k hk; omega
        · exact h1
      · rcases List.mem_cons.1 ((h k).2 (List.mem_cons_of_mem _ hk)) with h1 | h1
        · have := hm.1 k hk; omega
        · exact h1
theorem fair_lists {b b' : BoM} (hf : FairB b b') {l l' : List WL} (h : l = [] ∨ ∃ ns : List Int, ns.Pairwise (· < ·) ∧ (∀ k, k ∈ ns ↔ (b.P k).isSome = true) ∧ l.map WL.ws = ns.map (wsOf b))
    (h' : l' = [] ∨ ∃ ns : List Int, ns.Pairwise (· < ·) ∧ (∀ k, k ∈ ns ↔ (b'.P k).isSome = true) ∧ l'.map WL.ws = ns.map (wsOf b')) {k : Nat} (hk : k < l.length) (hk' : k < l'.length) : QueueM.Fair l[k].ws l'[k].ws := by
  rcases h with rfl | ⟨ns, p, q, e⟩
  · simp at hk
  rcases h' with rfl | ⟨ns', p', q', e'⟩
  · simp at hk'
  have hs : ∀ k, (b.P k).isSome = (b'.P k).isSome := fun k => by
    have := hf k
    cases h1 : b.P k <;> cases h2 : b'.P k <;> rw [h1, h2] at this <;> first | rfl | exact this.elim
  have hn : ns = ns' := rising_eq ns ns' p p' fun k => by rw [q, q', hs]
  subst hn
  have hl : l.length = ns.length := by have := congrArg List.length e; simpa using this
  have h1 : l[k].ws = wsOf b (ns[k]'(by omega)) := by
    have : (l.map WL.ws)[k]'(by simpa using hk) = (ns.map (wsOf b))[k]'(by simp; omega) := by simp only [e]
    simpa using this
  have h2 : l'[k].ws = wsOf b' (ns[k]'(by omega)) := by
    have : (l'.map WL.ws)[k]'(by simpa using hk') = (ns.map (wsOf b'))[k]'(by simp; omega) := by simp only [e']
    simpa using this
  have hm := (q (ns[k]'(by omega))).1 (List.getElem_mem _)
  have hb := hf (ns[k]'(by omega))
  rw [h1, h2]
  generalize ns[k]'(by omega) = n at hm hb
  cases h3 : b.P n with
  | none => rw [h3] at hm; cases hm
  | some x =>
    cases h4 : b'.P n with
    | none => rw [h3, h4] at hb; exact hb.elim
    | some x' =>
      rw [h3, h4] at hb
      rw [wsOf_some h3, wsOf_some h4]
      exact hb
theorem wl_at {w : World} {B t : Nat} {A : Option Addr} {n c : Nat} {l : List WL} (h : Sl w B t 1 (.slice A n c) l.length (l.map WL.val)) {k : Nat} (hk : k < l.length) :
    ∃ g o, A = some ⟨g, o, none⟩ ∧ ∀ w', Fresh w w' → w'.cell? ⟨g, o + k, none⟩ = some (.slice l[k].A l[k].ws.length l[k].c) := by
  obtain ⟨g, o, e, _, hc⟩ := h.rd.at_ (k := k) (by simpa using hk)
  refine ⟨g, o, e, fun w' F => ?_⟩
  rw [List.getElem_map] at hc
  exact (F.cell (World.block_lt_of_cell? _ _ hc) (fun f => f)).trans hc
structure CmV where
  c : CmA
  GA : Option Addr
  gc : Nat
  PA : Option Addr
  pc : Nat
def CmV.cells (x : CmV) : List Value := cmcel x.c x.GA x.gc x.PA x.pc
theorem CmV.len (x : CmV) : x.cells.length = 11 := rfl
structure CmI (w : World) (B : Nat) (x : CmV) : Prop where
  g : Rd w B x.GA (ivs x.c.gs)
  p : Rd w B x.PA (x.c.ps.map fv)
  gl : x.c.gs.length ≤ x.gc
  gm : x.gc ≤ maxLen
  pl : x.c.ps.length ≤ x.pc
  pm : x.pc ≤ maxLen
  wf : wf64 x.c.kind ∧ wf64 x.c.fl ∧ wf64 x.c.cl ∧ wf64 x.c.mn ∧ wf64 x.c.tm ∧ wf64 x.c.rows
  sc : x.c.sc < 18446744073709551616
  ps : ∀ i, x.c.ps.getD i 0 < 18446744073709551616
  sz : x.c.pnr.size ≤ maxLen ∧ x.c.lb.size ≤ maxLen
theorem CmI.al {w w' : World} {B : Nat} {x : CmV} (h : CmI w B x) (hB : B ≤ w.heap.size) (F : Fresh w w') (few : x.c.pnr.size ≤ 100 ∧ x.c.lb.size ≤ 100 ∧ x.c.gs.length ≤ 100 ∧ x.c.ps.length ≤ 100) : CmAL w' x.c x.GA x.gc x.PA x.pc :=
  ⟨(h.g.fresh hB F).more (Nat.le_trans hB F.size), (h.p.fresh hB F).more (Nat.le_trans hB F.size), h.gl, h.gm, h.pl, h.pm, h.wf, h.sc, h.ps, few⟩
structure IsCms (w : World) (B : Nat) (A : Option Addr) (cap : Nat) (l : List CmV) : Prop where
  rd : Rd w B A (l.flatMap CmV.cells)
  le : l.length ≤ cap
  most : cap ≤ maxLen
  all : ∀ x ∈ l, CmI w B x
theorem IsCms.at_ {w : World} {B : Nat} {A : Option Addr} {cap : Nat} {l : List CmV} (h : IsCms w B A cap l) (hB : B ≤ w.heap.size) {i : Nat} (hi : i < l.length) :
    ∃ g o, A = some ⟨g, o, none⟩ ∧ ∀ w', Fresh w w' → w'.rangeAt g (o + i * 11) l[i].cells := by
  have hne : l.flatMap CmV.cells ≠ [] := fun e => by
    have := flat_get CmV.cells 11 CmV.len l i hi 0 (by omega)
    rw [e] at this
    simp [CmV.cells, cmcel] at this
  obtain ⟨g, o, hA, hg, hc⟩ := h.rd hne
  refine ⟨g, o, hA, fun w' F j u hu => ?_⟩
  have hj : j < 11 := by
    have := (List.getElem?_eq_some_iff.1 hu).1
    rw [CmV.len] at this
    exact this
  have h1 := hc (i * 11 + j) u (by rw [flat_get CmV.cells 11 CmV.len l i hi j hj]; exact hu)
  rw [← Nat.add_assoc] at h1
  exact (F.cell (p := ⟨g, o + i * 11 + j, none⟩) (Nat.lt_of_lt_of_le hg hB) (fun f => f)).trans h1
def cm0 : CmA := ⟨0, ⟨#[]⟩, 0, 0, 0, 0, 0, ⟨#[]⟩, 0, [], []⟩
theorem wf0 : wf64 0 := ⟨by decide, by decide⟩
theorem cm0_al (w : World) : CmAL w cm0 none 0 none 0 :=
  ⟨Rd.nil _ _ _, Rd.nil _ _ _, Nat.le_refl _, Nat.zero_le _, Nat.le_refl _, Nat.zero_le _, ⟨wf0, wf0, wf0, wf0, wf0, wf0⟩, by decide, fun i => by simp [cm0], ⟨by decide, by decide, by decide, by decide⟩⟩
theorem cm0_no : ¬ CmOk cm0 := fun h => by have := h.kind.1; exact absurd this (by decide)
def FairPost (w : World) (e : Ending) (w' : World) : Prop := e = .returned (.bool true) ∧ Fresh w w'
theorem topFair_walk (w : World) (LA : Option Addr) (lc : Nat) (lst : List CmV) (hL : IsCms w w.heap.size LA lc lst) (hlen : lst.length ≤ 140737488351232) :
    Calls Tryz.prog 3 #[.slice LA lst.length lc] w fun e w' => FairPost w e w' := by
  have HL := zh hL
  clear hL
  go_in
  go_wp2_with fail
  refine (newB_any w).mono ?_
  rintro e w1 ⟨b0, rfl, hb0, hwt0, f1, _⟩
  have HB0 := zh hb0
  have HF1 := zh f1
  have HAP0 := zh (apply_any w1 w.heap.size f1.size b0 hb0 hwt0 cm0 none 0 none 0 (cm0_al w1))
  unfold cmcel cm0 at HAP0
  clear hb0 hwt0 f1
  go_wp2_with fail
  refine HAP0.out.mono ?_
  rintro e w2 ⟨b1, zs, hst, hwt1, _, hz, rfl, hno⟩
  have HST := zh hst
  have HWT1 := zh hwt1
  have HRZ := zh hz
  have HNO := zh (hno cm0_no)
  have HBR : Hid (Blk (w2.alloc (.cells (replyC 0) 29)) w2.heap.size 29 (replyC 0)) := zh (Blk.new _ _ _)
  have HTHR : Hid ((w2.alloc (.cells (replyC 0) 29)).there w2.heap.size 0 zs.toArray.size) := zh (HBR.out.there (by have := hz.len; show _ = 9; simpa using this))
  have HINF := zh hz.info
  have HONE := zh hz.one
  have HBS : Hid (Blk ((w2.alloc (.cells (replyC 0) 29)).setCells w2.heap.size 0 zs) w2.heap.size 29 zs.toArray) := zh (blk_setAll HBR.out (vs := zs) (by rw [hz.len]; rfl))
  have HFS : Hid (Frm (fun j => w2.heap.size = j) (w2.alloc (.cells (replyC 0) 29)) ((w2.alloc (.cells (replyC 0) 29)).setCells w2.heap.size 0 zs)) := zh (frm_setCells _ _ 0 _)
  have HFR : Hid (Fresh w w2) := zh (HF1.out.trans' hst.fr (fun i hi hj => by have := HB0.out.own_ge hj; omega))
  clear hst hwt1 hz hno HAP0
  unfold replyC at HTHR HBS HFS
  go_upto_region 5 with (refine wpList_store_mid rfl 29 (.tmp 4) (.tmp 15) rfl w2.heap.size 0 zs.toArray rfl rfl HTHR.out HINF.out HONE.out ?_)
  obtain ⟨W, hW⟩ : ∃ W, ((w2.alloc (.cells #[Value.int IntKind.i64 0, Value.string ⟨#[]⟩, Value.int IntKind.i64 0, Value.int IntKind.i64 0, Value.int IntKind.i64 0, Value.int IntKind.i64 0, Value.int IntKind.i64 0, Value.slice none 0 0, Value.slice none 0 0] 29)).setCells w2.heap.size 0 zs) = W := ⟨_, rfl⟩
  try rw [hW]
  rw [hW] at HBS HFS
  have z0 : W.cell? ⟨w2.heap.size, 0, none⟩ = some (.int .i64 1) := (HBS.out.cell 0).trans (by rw [← HNO.out]; simp)
  have HFW2 : Hid (Fresh w2 W) := zh (((Frm.refl (fun _ => False) w2).alloc _).trans' HFS.out (fun i hi e => by omega))
  have HBW := zh (HST.out.fresh HFW2.out)
  have HFW := zh (HFR.out.trans HFW2.out)
  obtain ⟨g, hg⟩ : ∃ g, b0.b = g := ⟨_, rfl⟩
  have HBB : Hid (b1.b = g) := zh (HST.out.e1.trans hg)
  rw [hg]
  clear hW HTHR HINF HONE HBS HFS HBR HNO HRZ HFW2 hg
  go_wp2_with fail
  go_loopw [5] (fun v5 wr => ∃ (i : Nat) (b : BoM), i ≤ lst.length ∧ v5 = .int .i64 (i : Int) ∧ BookP wr w.heap.size b ∧ b.wt ∧ b.b = g ∧ Fresh w wr) (fun v5 _ => lst.length - (RowKit.intOf v5).toNat)
  case atStart => exact ⟨0, b1, by omega, rfl, HBW.out.bk, HWT1.out, HBB.out, HFW.out⟩
  case round =>
    clear HBW HFW HST HWT1 HBB HF1 HB0 HFR z0
    obtain ⟨i, b, hi, rfl, hb, hwt, hbb, hf⟩ := hrel
    have HB := zh hb
    have HWT := zh hwt
    have HBB := zh hbb
    have HF := zh hf
    have hi0 : (0 : Int) ≤ (i : Int) := by omega
    clear hb hwt hbb hf
    by_cases hlt : i < lst.length
    rotate_left 1
    · have hlti : ¬ (i : Int) < (lst.length : Int) := by omega
      have d1 : decide ((i : Int) < (lst.length : Int)) = false := decide_eq_false hlti
      go_wp2_with fail
      exact bodyPost_ret (v := .bool true) (by simp [results, Tryz.results3, go_sem]) rfl ⟨rfl, HF.out⟩
    have hlti : (i : Int) < (lst.length : Int) := by omega
    have d1 : decide ((i : Int) < (lst.length : Int)) = true := decide_eq_true hlti
    by_cases h100 : i < 100
    rotate_left 1
    · have h100i : ¬ (i : Int) < 100 := by omega
      have d2 : decide ((i : Int) < 100) = false := decide_eq_false h100i
      go_wp2_with fail
      exact bodyPost_ret (v := .bool true) (by simp [results, Tryz.results3, go_sem]) rfl ⟨rfl, HF.out⟩
    have h100i : (i : Int) < 100 := by omega
    have d2 : decide ((i : Int) < 100) = true := decide_eq_true h100i
    obtain ⟨gl, ol, hLA, hrg⟩ := HL.out.at_ (Nat.le_refl _) hlt
    subst hLA
    have HRG := zh hrg
    have HCI := zh (HL.out.all _ (List.getElem_mem hlt))
    clear hrg
    generalize lst[i] = x at HRG HCI
    have x1 : wr.cell? ⟨gl, ol + i * 11 + 1, none⟩ = some (.string x.c.pnr) := HRG.out wr HF.out 1 _ rfl
    have x7 : wr.cell? ⟨gl, ol + i * 11 + 7, none⟩ = some (.string x.c.lb) := HRG.out wr HF.out 7 _ rfl
    have x9 : wr.cell? ⟨gl, ol + i * 11 + 9, none⟩ = some (.slice x.GA x.c.gs.length x.gc) := HRG.out wr HF.out 9 _ rfl
    have x10 : wr.cell? ⟨gl, ol + i * 11 + 10, none⟩ = some (.slice x.PA x.c.ps.length x.pc) := HRG.out wr HF.out 10 _ rfl
    have hs1 := HCI.out.sz.1
    have hs7 := HCI.out.sz.2
    unfold maxLen at hs1 hs7
    by_cases q9 : 100 < x.c.gs.length
    · have q9i : (100 : Int) < (x.c.gs.length : Int) := by omega
      have q9d : decide ((100 : Int) < (x.c.gs.length : Int)) = true := decide_eq_true q9i
      go_wp2_with fail
      exact bodyPost_ret (v := .bool true) (by simp [results, Tryz.results3, go_sem]) rfl ⟨rfl, HF.out⟩
    have q9i : ¬ (100 : Int) < (x.c.gs.length : Int) := by omega
    have q9d : decide ((100 : Int) < (x.c.gs.length : Int)) = false := decide_eq_false q9i
    by_cases q10 : 100 < x.c.ps.length
    · have q10i : (100 : Int) < (x.c.ps.length : Int) := by omega
      have q10d : decide ((100 : Int) < (x.c.ps.length : Int)) = true := decide_eq_true q10i
      go_wp2_with fail
      exact bodyPost_ret (v := .bool true) (by simp [results, Tryz.results3, go_sem]) rfl ⟨rfl, HF.out⟩
    have q10i : ¬ (100 : Int) < (x.c.ps.length : Int) := by omega
    have q10d : decide ((100 : Int) < (x.c.ps.length : Int)) = false := decide_eq_false q10i
    by_cases q1 : 100 < x.c.pnr.size
    · have q1i : (100 : Int) < (x.c.pnr.size : Int) := by omega
      have q1d : decide ((100 : Int) < (x.c.pnr.size : Int)) = true := decide_eq_true q1i
      go_wp2_with fail
      exact bodyPost_ret (v := .bool true) (by simp [results, Tryz.results3, go_sem]) rfl ⟨rfl, HF.out⟩
    have q1i : ¬ (100 : Int) < (x.c.pnr.size : Int) := by omega
    have q1d : decide ((100 : Int) < (x.c.pnr.size : Int)) = false := decide_eq_false q1i
    by_cases q7 : 100 < x.c.lb.size
    · have q7i : (100 : Int) < (x.c.lb.size : Int) := by omega
      have q7d : decide ((100 : Int) < (x.c.lb.size : Int)) = true := decide_eq_true q7i
      go_wp2_with fail
      exact bodyPost_ret (v := .bool true) (by simp [results, Tryz.results3, go_sem]) rfl ⟨rfl, HF.out⟩
    have q7i : ¬ (100 : Int) < (x.c.lb.size : Int) := by omega
    have q7d : decide ((100 : Int) < (x.c.lb.size : Int)) = false := decide_eq_false q7i
    have HAL : Hid (∀ w', Fresh w w' → CmAL w' x.c x.GA x.gc x.PA x.pc) := zh fun w' F => HCI.out.al (Nat.le_refl _) F ⟨by omega, by omega, by omega, by omega⟩
    have HWA := zh (waiting_any wr w.heap.size HF.out.size b HB.out)
    rw [HBB.out] at HWA
    go_upto_region 12 with fail
    clear x1 x7 x9 x10 hs1 hs7 q9i q9d q10i q10d q1i q1d q7i q7d q9 q10 q1 q7
    go_wp2_with fail
    refine HWA.out.mono ?_
    rintro e w3 ⟨v6, l6, rfl, s6, r6, f3, n6, k6⟩
    have HF3 := zh f3
    have HK6 := zh k6
    have HR6 := zh r6
    have HS6 := zh s6
    have HFW3 := zh (HF.out.trans f3)
    have HB3 := zh (HB.out.fresh f3)
    obtain ⟨cz, hcz⟩ : ∃ cz, cz = x.cells := ⟨_, rfl⟩
    have HRC : Hid (w3.rangeAt gl (ol + i * 11) cz) := zh (by rw [hcz]; exact HRG.out w3 HFW3.out)
    have HINF : Hid ((Tryz.prog.info? 36).map (·.size) = some cz.length) := zh (by rw [hcz]; exact cmd_info x.c x.GA x.gc x.PA x.pc)
    have HAP := apply_any w3 w.heap.size HFW3.out.size b HB3.out HWT.out x.c x.GA x.gc x.PA x.pc (HAL.out w3 HFW3.out)
    rw [HBB.out, show cmcel x.c x.GA x.gc x.PA x.pc = cz from hcz.symm] at HAP
    have HAPP := zh HAP
    obtain ⟨A6, c6, rfl, _, _, _⟩ := s6.shape
    clear s6 r6 f3 k6 hcz HAP HWA
    go_wp2_with (refine wpList_load_mid rfl 36 (.tmp 69) rfl gl (ol + i * 11) rfl cz _ HRC.out Tryz.underlying36 rfl HINF.out ?_)
    refine HAPP.out.mono ?_
    rintro e w4 ⟨b', zs', hst, hwt', hfb, hz, rfl, _⟩
    have HST := zh hst
    have HWT4 := zh hwt'
    have HFB := zh hfb
    have HFW4 : Hid (Fresh w w4) := zh (HFW3.out.trans' hst.fr (fun i hi hj => by have := HB.out.own_ge hj; omega))
    have HS64 : Hid (Sl w4 wr.heap.size 40 1 (.slice A6 l6.length c6) l6.length (l6.map WL.val)) := zh (HS6.out.frm hst.fr (fun k hk ho => by have := (HS6.out.lt k hk).1; have := HB.out.own_lt ho; omega))
    have HR64 : Hid (∀ x ∈ l6, Sl w4 wr.heap.size 69 5 x.val x.ws.length (x.ws.flatMap wcells) ∧ x.ws.length ≤ 200) := zh fun x hx => ⟨(HR6.out x hx).1.frm hst.fr (fun k hk ho => by have := ((HR6.out x hx).1.lt k hk).1; have := HB.out.own_lt ho; omega), (HR6.out x hx).2⟩
    have HWA := zh (waiting_any w4 w.heap.size HFW4.out.size b' hst.bk)
    rw [hst.e1, HBB.out] at HWA
    have HBB4 : Hid (b'.b = g) := zh (hst.e1.trans HBB.out)
    have HB4 := zh hst.bk
    clear hst hwt' hfb hz HS6 HR6 HAPP HRC HINF HB3 HFW3
    go_wp2_with fail
    refine HWA.out.mono ?_
    rintro e w5 ⟨v7, l7, rfl, s7, r7, f5, n7, k7⟩
    have HK7 := zh k7
    have HR7 := zh r7
    have HS7 := zh s7
    have HFW5 := zh (HFW4.out.trans f5)
    have HB5 := zh (HB4.out.fresh f5)
    have HS65 := zh (HS64.out.fresh f5)
    have HR65 : Hid (∀ x ∈ l6, Sl w5 wr.heap.size 69 5 x.val x.ws.length (x.ws.flatMap wcells) ∧ x.ws.length ≤ 200) := zh fun x hx => ⟨(HR64.out x hx).1.fresh f5, (HR64.out x hx).2⟩
    obtain ⟨A7, c7, rfl, _, _, _⟩ := s7.shape
    have x0 : w5.cell? ⟨gl, ol + i * 11, none⟩ = some (.int .i64 x.c.kind) := HRG.out w5 HFW5.out 0 _ rfl
    have HFB2 : Hid (x.c.kind ≠ 1 → x.c.kind ≠ 4 → x.c.kind ≠ 7 → ∀ k (h6 : k < l6.length) (h7 : k < l7.length), QueueM.Fair l6[k].ws l7[k].ws) := zh fun h1 h4 h7 k h6 h7' => fair_lists (HFB.out h1 h4 h7) HK6.out HK7.out h6 h7'
    clear s7 r7 f5 k7 HWA HS64 HR64 HFB HK6 HK7 HB4 HST
    generalize x.c.kind = kd at x0 HFB2
    go_upto_region 15 with fail
    by_cases k4 : kd = 4
    · rw [k4] at x0
      clear k4 HFB2
      go_wp2_with fail
      go_roundw
      case rel => first | exact ⟨i + 1, b', by omega, by go_num, HB5.out, HWT4.out, HBB4.out, HFW5.out⟩ | trace_state
      case measure => simp [RowKit.intOf]; omega
    have k4d : decide (kd = 4) = false := decide_eq_false k4
    have k4b : (kd == 4) = false := by simpa using k4
    by_cases k1 : kd = 1
    · rw [k1] at x0
      clear k1 k4 k4d k4b HFB2
      go_wp2_with fail
      go_roundw
      case rel => first | exact ⟨i + 1, b', by omega, by go_num, HB5.out, HWT4.out, HBB4.out, HFW5.out⟩ | trace_state
      case measure => simp [RowKit.intOf]; omega
    have k1d : decide (kd = 1) = false := decide_eq_false k1
    have k1b : (kd == 1) = false := by simpa using k1
    by_cases k7 : kd = 7
    · rw [k7] at x0
      clear k7 k4 k4d k4b k1 k1d k1b HFB2
      go_wp2_with fail
      go_roundw
      case rel => first | exact ⟨i + 1, b', by omega, by go_num, HB5.out, HWT4.out, HBB4.out, HFW5.out⟩ | trace_state
      case measure => simp [RowKit.intOf]; omega
    have k7d : decide (kd = 7) = false := decide_eq_false k7
    have k7b : (kd == 7) = false := by simpa using k7
    have HFR := zh (HFB2.out k1 k4 k7)
    clear HFB2 k1 k4 k7
    go_wp2_with fail
    clear x0 k4d k4b k1d k1b k7d k7b
    go_loopw [8] (fun v8 wr => ∃ k : Nat, k ≤ l6.length ∧ v8 = .int .i64 (k : Int) ∧ Fresh w5 wr) (fun v8 _ => l6.length - (RowKit.intOf v8).toNat)
    case atStart => exact ⟨0, by omega, rfl, Frm.refl _ _⟩
    case round =>
      obtain ⟨k, hk, rfl, hf⟩ := hrel
      have HF8 := zh hf
      have hk0 : (0 : Int) ≤ (k : Int) := by omega
      clear hf
      by_cases hlk : k < l6.length
      rotate_left 1
      · have hlki : ¬ (k : Int) < (l6.length : Int) := by omega
        have e1 : decide ((k : Int) < (l6.length : Int)) = false := decide_eq_false hlki
        go_wp2_with fail
        go_roundw
        case rel => first | exact ⟨i + 1, b', by omega, by go_num, HB5.out.fresh HF8.out, HWT4.out, HBB4.out, HFW5.out.trans HF8.out⟩ | trace_state
        case measure => simp [RowKit.intOf]; omega
      have hlki : (k : Int) < (l6.length : Int) := by omega
      have e1 : decide ((k : Int) < (l6.length : Int)) = true := decide_eq_true hlki
      by_cases hl7 : k < l7.length
      rotate_left 1
      · have hl7i : ¬ (k : Int) < (l7.length : Int) := by omega
        have e2 : decide ((k : Int) < (l7.length : Int)) = false := decide_eq_false hl7i
        go_wp2_with fail
        go_roundw
        case rel => first | exact ⟨i + 1, b', by omega, by go_num, HB5.out.fresh HF8.out, HWT4.out, HBB4.out, HFW5.out.trans HF8.out⟩ | trace_state
        case measure => simp [RowKit.intOf]; omega
      have hl7i : (k : Int) < (l7.length : Int) := by omega
      have e2 : decide ((k : Int) < (l7.length : Int)) = true := decide_eq_true hl7i
      obtain ⟨gb, ob, hA6, hc6⟩ := wl_at HS65.out hlk
      obtain ⟨ga, oa, hA7, hc7⟩ := wl_at HS7.out hl7
      subst hA6 hA7
      have HS19' : Hid (∀ w', Fresh wr w' → w'.cell? ⟨gb, ob + k, none⟩ = some (.slice l6[k].A l6[k].ws.length l6[k].c) ∧ w'.cell? ⟨ga, oa + k, none⟩ = some (.slice l7[k].A l7[k].ws.length l7[k].c)) := zh fun w' F => ⟨hc6 w' (HF8.out.trans F), hc7 w' (HF8.out.trans F)⟩
      have HFA' : Hid (∀ w', Fresh wr w' → Calls Tryz.prog 7 #[.slice l6[k].A l6[k].ws.length l6[k].c, .slice l7[k].A l7[k].ws.length l7[k].c] w' fun e w'' => e = .returned (.bool true) ∧ Fresh w' w'') := zh fun w' F => by
        have m6 := HR65.out _ (List.getElem_mem hlk)
        have m7 := HR7.out _ (List.getElem_mem hl7)
        have F' := HF8.out.trans F
        exact fairly_any w' _ _ _ _ _ _ (Sl.rd (m6.1.fresh F')) (Sl.rd (m7.1.fresh F')) (by have := m6.2; omega) (by have := m7.2; omega) (HFR.out k hlk hl7).2
      clear hc6 hc7
      generalize l6[k] = y6 at HS19' HFA'
      generalize l7[k] = y7 at HS19' HFA'
      obtain ⟨Ab, cb, xb⟩ := y6
      obtain ⟨Aa, ca, xa⟩ := y7
      dsimp only at HS19' HFA'
      have HS19 := HS19'
      have HFA := HFA'
      clear HS19' HFA'
      obtain ⟨V, hV⟩ : ∃ V, wr = V := ⟨_, rfl⟩
      rw [hV] at HS19 HFA HF8 ⊢
      clear hV
      go_upto_region 19 with fail
      refine wp_region_held_drew (S := fun w' => w'.cell? ⟨gb, ob + k, none⟩ = some (.slice Ab xb.length cb) ∧ w'.cell? ⟨ga, oa + k, none⟩ = some (.slice Aa xa.length ca)) (by kernel_rfl) (HS19.out _ (Frm.refl _ _).drew) (fun hHeld => ?_)
      iterate 8 ((first | refine ztn (v := ?_) (zo rfl) ?_ | refine ztz (v := ?_) (zo rfl) ?_); try simp only [Act.put, zT, zZ, zS])
      refine zr1 8 (zo rfl) (fun K hK => ?_)
      go_simp
      refine (HFA.out V.drew (Frm.refl _ _).drew).mono ?_
      rintro e w9 ⟨rfl, f9⟩
      have HF9 : Hid (Fresh V w9) := zh ((Frm.refl (fun _ => False) V).drew.trans f9)
      clear f9
      refine hK.out _ _ (HS19.out _ HF9.out) (fun hHeld => ?_)
      clear hK K
      try simp only [Act.put, zT, zZ, zS]
      (refine ztn (v := ?_) (zo rfl) ?_; try simp only [Act.put, zT, zZ, zS])
      refine wpAnyH_done (by kernel_rfl) ?_ _
      have HF10 : Hid (Fresh w5 w9) := zh (HF8.out.trans HF9.out)
      go_wp2_with fail
      go_roundw
      case rel => first | exact ⟨k + 1, by omega, by go_num, HF10.out⟩ | trace_state
      case measure => simp [RowKit.intOf]; omega
end
end Go.Proofs.YtbeaoddjomdlcaaGreatDoor

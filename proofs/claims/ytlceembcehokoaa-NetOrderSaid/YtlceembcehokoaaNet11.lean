/- The law NetOrder walked. -/
import Derived.Test.YtlceembcehokoaaNet10
namespace Go.Proofs.Ytlceembcehokoaa
open Go.RowKit
set_option maxRecDepth 100000

def want (bl : List Rc.Bs) (j : Nat) : Int × Int × List UInt8 := (1, 2 + (j : Int) % 3, (bl.getD j (none, 0, [])).2.2)
def pkey (p : Pk) : Int × Int × List UInt8 := (p.f, p.t, p.bs)
theorem IsP.isN {w0 w : World} {b m : Nat} {l : List Pk} (h : IsP w0 b m l w) : IsN w0 b m l.length w := by
  obtain ⟨v, h1, h2⟩ := h.ex
  exact ⟨⟨v, _, h1, h2⟩, h.map, h.low, h.frm⟩
set_option maxHeartbeats 8000000 in
theorem order_law (w : World) (A : Option Addr) (cap : Nat) (bl : List Rc.Bs) (hb : Rc.IsBss w w.heap.size A cap bl) :
    Calls Try.prog 8 #[.slice A bl.length cap] w fun e w' => e = .returned (.bool true) ∧ Below w.heap.size w w' := by
  have HA := Lib.hid hb
  obtain ⟨k, hk⟩ : ∃ k, k = min bl.length 100 := ⟨_, rfl⟩
  have hk1 : k ≤ bl.length := by omega
  have hk2 : k ≤ 100 := by omega
  have hmin : min (bl.length : Int) 100 = (k : Int) := by omega
  clear hb hk
  go_enter Try.func8, Try.ntmps8
  go_wp2_with fail
  refine (awake_any w).mono ?_
  rintro e w1 ⟨rfl, f1⟩
  have HF1 := Lib.hid f1
  clear f1
  go_wp2_with fail
  refine (new_any w w1 HF1.out).mono ?_
  rintro e w2 ⟨b, m, rfl, hn⟩
  have HN := Lib.hid hn.isP
  clear hn
  go_wp2_with fail
  go_loopw [6] (fun v6 wr => ∃ (i : Nat) (l : List Pk), i ≤ k ∧ v6 = .int .i64 (i : Int) ∧ l.map pkey = (List.range' 0 i).map (want bl) ∧ (∀ p ∈ l, p.bs.length ≤ 1000) ∧ IsP w b m l wr) (fun v6 _ => k - (intOf v6).toNat)
  case atStart => exact ⟨0, [], by omega, rfl, rfl, (fun p hp => by cases hp), HN.out⟩
  case round =>
    clear HN
    obtain ⟨i, l, hik, rfl, hkey, hbl, hp⟩ := hrel
    have HP := Lib.hid hp
    have HK := Lib.hid hkey
    have HBL := Lib.hid hbl
    have hll : l.length = i := by
      have := congrArg List.length hkey
      simpa using this
    have hi0 : (0 : Int) ≤ (i : Int) := by omega
    clear hp hkey hbl
    by_cases hlt : i < k
    · have hlti : (i : Int) < (k : Int) := by omega
      have hib : i < bl.length := by omega
      have hibi : (i : Int) < (bl.length : Int) := by omega
      obtain ⟨g, o, rfl, _, hcell⟩ := (HA.out.rd.fresh (Nat.le_refl _) HP.out.frm).at_ (k := i) (by simpa using hib)
      have hall := (HA.out.all _ (List.getElem_mem hib)).keep (Nat.le_refl _) HP.out.frm
      have hwant : Hid (want bl i = (1, 2 + (i : Int) % 3, (bl[i]).2.2)) := Lib.hid (by unfold want; rw [List.getD_eq_getElem?_getD, List.getElem?_eq_getElem hib]; rfl)
      rw [List.getElem_map] at hcell
      obtain ⟨x, hx⟩ : ∃ x, x = bl[i] := ⟨_, rfl⟩
      rw [← hx] at hcell hall hwant
      clear hx
      obtain ⟨AB, cb, bs⟩ := x
      unfold Rc.bsv at hcell
      dsimp only at hcell hwant
      have hbr := hall.rd.more HP.out.frm.size
      have hbc : bs.length ≤ cb := hall.le
      have hbm : cb ≤ maxLen := hall.most
      have HBR := Lib.hid hbr
      clear hbr hall
      by_cases hbig : 1000 < bs.length
      · have hbi : (1000 : Int) < (bs.length : Int) := by omega
        go_wp2_with fail
        go_ret
        exact ⟨rfl, Fresh.below HP.out.frm⟩
      · have hbi : ¬ (1000 : Int) < (bs.length : Int) := by omega
        have hr0 : ¬ ((3 : Int) = 0) := by omega
        have HS := Lib.hid (sendP_any w wr b m l HP.out (by omega) (2 + (i : Int) % 3) (by omega) (by omega) (by
          have : (i : Int) % 3 = 0 ∨ (i : Int) % 3 = 1 ∨ (i : Int) % 3 = 2 := by omega
          rcases this with h | h | h <;> rw [h] <;> decide) AB cb bs HBR.out (by omega) hbc hbm)
        go_wp2_with fail
        refine HS.out.mono ?_
        rintro e w3 ⟨rfl, v3, h3⟩
        have H3 := Lib.hid h3
        clear h3
        go_wp2_with fail
        go_roundw
        case rel =>
          refine ⟨i + 1, _, by omega, by go_num, ?_, ?_, H3.out⟩
          · rw [List.map_append, HK.out, List.range'_1_concat, List.map_append, Nat.zero_add, List.map_cons, List.map_nil, List.map_cons, List.map_nil, hwant.out]
            rfl
          · intro p hp
            rcases List.mem_append.1 hp with hp | hp
            · exact HBL.out p hp
            · rw [List.mem_singleton] at hp
              subst hp
              show bs.length ≤ 1000
              omega
        case measure => simp [intOf]; omega
    · obtain rfl : i = k := by omega
      go_wp2_with fail
      go_loopw [8] (fun v8 ws => ∃ (j : Nat) (q : List Pk), j ≤ i ∧ v8 = .int .i64 (j : Int) ∧ q.map pkey = (List.range' j (i - j)).map (want bl) ∧ (∀ p ∈ q, p.bs.length ≤ 1000) ∧ IsP w b m q ws) (fun v8 _ => i - (intOf v8).toNat)
      case atStart => exact ⟨0, l, by omega, rfl, HK.out, HBL.out, HP.out⟩
      case round =>
        clear HP HK HBL hll
        obtain ⟨j, q, hji, rfl, hkey, hbl, hp⟩ := hrel
        have HP := Lib.hid hp
        have hj0 : (0 : Int) ≤ (j : Int) := by omega
        have hql : q.length = i - j := by
          have := congrArg List.length hkey
          simpa using this
        clear hp
        by_cases hlt2 : j < i
        · have hltj : (j : Int) < (i : Int) := by omega
          have hjb : j < bl.length := by omega
          have hjbi : (j : Int) < (bl.length : Int) := by omega
          obtain ⟨g, o, rfl, hgw, hcell⟩ := (HA.out.rd.fresh (Nat.le_refl _) HP.out.frm).at_ (k := j) (by simpa using hjb)
          have hall := HA.out.all _ (List.getElem_mem hjb)
          have hwant : Hid (want bl j = (1, 2 + (j : Int) % 3, (bl[j]).2.2)) := Lib.hid (by unfold want; rw [List.getD_eq_getElem?_getD, List.getElem?_eq_getElem hjb]; rfl)
          rw [List.getElem_map] at hcell
          obtain ⟨x, hx⟩ : ∃ x, x = bl[j] := ⟨_, rfl⟩
          rw [← hx] at hcell hall hwant
          clear hx
          obtain ⟨AB, cb, bs⟩ := x
          unfold Rc.bsv at hcell
          dsimp only at hcell hwant
          obtain ⟨p, r, rfl⟩ : ∃ p r, q = p :: r := by
            cases q with
            | nil => simp at hql; omega
            | cons p r => exact ⟨p, r, rfl⟩
          rw [show i - j = (i - (j + 1)) + 1 by omega, List.range'_succ, List.map_cons, List.map_cons, hwant.out] at hkey
          injection hkey with hk0 hk1
          have hpb := hbl p (by simp)
          have HK1 := Lib.hid hk1
          have HBL := Lib.hid (fun p' hp' => hbl p' (List.mem_cons_of_mem _ hp'))
          unfold pkey at hk0
          injection hk0 with e1 e2
          injection e2 with e2 e3
          have HT := Lib.hid (take_any w wr b m p r HP.out (by rw [hql]; omega) hpb)
          unfold TookPost at HT
          rw [e1, e2, e3] at HT
          have HALL := Lib.hid hall
          clear hbl hk1 hall e1 e2 e3 hql hpb
          go_wp2_with fail
          refine HT.out.mono ?_
          rintro e w4 ⟨v4, rfl, hs4, h4⟩
          obtain ⟨A4, c4, rfl, _⟩ := hs4.shape
          obtain ⟨W5, hW5⟩ : ∃ W5, w4.alloc (.cells #[.int .i64 1, .int .i64 (2 + (j : Int) % 3), .slice A4 bs.length c4] 45) = W5 := ⟨_, rfl⟩
          have F5 : Fresh w4 W5 := by rw [← hW5]; exact (Frm.refl _ w4).alloc _
          have HQ : Hid (Blk W5 w4.heap.size 45 #[.int .i64 1, .int .i64 (2 + (j : Int) % 3), .slice A4 bs.length c4]) := Lib.hid (by rw [← hW5]; exact Blk.new w4 _ _)
          have HP5 := Lib.hid (h4.fresh F5)
          have hbb := ((HALL.out.keep (Nat.le_refl _) HP5.out.frm).rd.more HP5.out.frm.size)
          have l5 : W5.drew.cell? ⟨g, o + j, none⟩ = some (.slice AB bs.length cb) := (HP5.out.frm.cell hgw (fun f => f)).trans ((HP.out.frm.cell hgw (fun f => f)).symm.trans hcell)
          have q4 : (convert 26 9 (.slice A4 bs.length c4)).run Try.prog W5.drew = .ok (.string (str bs)) W5.drew := Rc.conv_u c4 (hs4.fresh F5).rd.drew rfl
          have qb : (convert 26 9 (.slice AB bs.length cb)).run Try.prog W5.drew = .ok (.string (str bs)) W5.drew := Rc.conv_u cb hbb.drew rfl
          have SS : Hid (W5.drew.cell? ⟨w4.heap.size, 0, none⟩ = some (.int .i64 1) ∧ W5.drew.cell? ⟨w4.heap.size, 1, none⟩ = some (.int .i64 (2 + (j : Int) % 3)) ∧ W5.drew.cell? ⟨w4.heap.size, 2, none⟩ = some (.slice A4 bs.length c4) ∧ W5.drew.cell? ⟨g, o + j, none⟩ = some (.slice AB bs.length cb) ∧ (convert 26 9 (.slice A4 bs.length c4)).run Try.prog W5.drew = .ok (.string (str bs)) W5.drew ∧ (convert 26 9 (.slice AB bs.length cb)).run Try.prog W5.drew = .ok (.string (str bs)) W5.drew) := Lib.hid ⟨HQ.out.cell 0, HQ.out.cell 1, HQ.out.cell 2, l5, q4, qb⟩
          clear hs4 h4 F5 hbb l5 hcell q4 qb
          go_wp2_with fail
          try rw [hW5]
          clear hW5
          have hj3 : IntKind.i64.wrap ((j : Int).tmod 3) = (j : Int) % 3 := by rw [Int.tmod_eq_emod_of_nonneg hj0]; exact IntWalk.i64_in _ (by omega)
          have hj4 : IntKind.i64.wrap (2 + (j : Int) % 3) = 2 + (j : Int) % 3 := IntWalk.i64_in _ (by omega)
          have hj5 : (j : Int).tmod 3 = (j : Int) % 3 := Int.tmod_eq_emod_of_nonneg hj0
          go_region_held3 (fun w' => w'.cell? ⟨w4.heap.size, 0, none⟩ = some (.int .i64 1) ∧ w'.cell? ⟨w4.heap.size, 1, none⟩ = some (.int .i64 (2 + (j : Int) % 3)) ∧ w'.cell? ⟨w4.heap.size, 2, none⟩ = some (.slice A4 bs.length c4) ∧ w'.cell? ⟨g, o + j, none⟩ = some (.slice AB bs.length cb) ∧ (convert 26 9 (.slice A4 bs.length c4)).run Try.prog w' = .ok (.string (str bs)) w' ∧ (convert 26 9 (.slice AB bs.length cb)).run Try.prog w' = .ok (.string (str bs)) w')
            (exact SS.out)
            (fail)
          all_goals
            go_wp2_with fail
            go_roundw
            case rel => exact ⟨j + 1, r, by omega, by go_num, HK1.out, HBL.out, HP5.out.fresh ((Frm.refl _ W5).drew)⟩
            case measure => simp [intOf]; omega
        · obtain rfl : j = i := by omega
          have hq0 : q.length = 0 := by omega
          have HL := Lib.hid (len_any w wr b m 0 (hq0 ▸ HP.out.isN))
          clear hkey hbl
          go_wp2_with fail
          refine HL.out.mono ?_
          rintro e w3 ⟨rfl, rfl⟩
          go_wp2_with fail
          go_ret
          exact ⟨by simp, Fresh.below HP.out.frm⟩
theorem order_walk (w : World) (s : Option Addr × Nat × List (Option Addr × Nat × List Int)) (hs : IsL w 24 (fun s => [sv s]) (IsL w 1 Rc.u8f Rc.u8q) s) :
    Calls Try.prog 8 #[sv s] w fun e w' => e = .returned (.bool true) ∧ Below w.heap.size w w' := by
  obtain ⟨bl, hv, hb⟩ := Rc.to_bss hs
  rw [hv]
  exact order_law w s.1 s.2.1 bl hb
end Go.Proofs.Ytlceembcehokoaa

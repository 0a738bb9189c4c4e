/- The law QueueEach walked. -/
import Derived.Test.YthofodjklogfgaaQueue14
namespace Go.Proofs.Ythofodjklogfgaa
open Go.RowKit QueueM
attribute [local go_sem] run_store_float

set_option maxRecDepth 100000 in
set_option maxHeartbeats 8000000 in
theorem each_law (w : World) (A : Option Addr) (cap : Nat) (ss : List Stp) (hA : Rd w w.heap.size A (ss.flatMap scells)) (hok : ∀ s ∈ ss, StpOk w s) (hlen : ss.length ≤ 9223372036854775807) :
    Calls Try.prog 4 #[.slice A ss.length cap] w fun e w' => e = .returned (.bool true) ∧ Below w.heap.size w w' := by
  have HA := Lib.hid hA
  have HOK := Lib.hid hok
  have hmm := @run_makeMap Try.prog
  have K := Maps.int_keyed Try.underlying3
  clear hA hok
  go_enter Try.func4, Try.ntmps4
  go_wp2_with fail
  refine (awake_any w).mono ?_
  rintro e w1 ⟨rfl, f1⟩
  have HF1 := Lib.hid f1
  clear f1
  go_wp2_with fail
  refine (new_any w1).mono ?_
  rintro e w2 ⟨rfl, q1, f2⟩
  have HI : Hid (EachInv w w1.heap.size w2.heap.size (.slice none 0 0) [] 0 (.map []) (w2.alloc (.map #[] 0))) := Lib.hid ⟨(q1.less (B' := w.heap.size) HF1.out.size).fresh ((Frm.refl _ _).alloc _), QueueM.Good.nil, World.ownsMap_made _ _ _ _, (HF1.out.trans f2).size, fun _ => rfl, fun _ => rfl, rfl, ((HF1.out.trans f2).alloc _)⟩
  clear q1 f2
  generalize w1.heap.size = b4 at HI
  obtain ⟨mb, hmb⟩ : ∃ mb, w2.heap.size = mb := ⟨_, rfl⟩
  rw [hmb] at HI
  go_wp2_with fail
  go_loopw [6] (fun v6 wr => ∃ (i : Nat) (v : Value) (l : List Wt) (n : Nat) (D : DU), i ≤ ss.length ∧ i ≤ 250 ∧ n ≤ i ∧ v6 = .int .i64 (i : Int) ∧ EachInv w b4 mb v l n D wr) (fun v6 _ => ss.length - (intOf v6).toNat)
  case atStart => exact ⟨0, _, _, 0, _, by omega, by omega, by omega, rfl, HI.out⟩
  case round =>
    obtain ⟨i, v, l, n, D, hin, hi250, hni, rfl, INV⟩ := hrel
    clear hmb
    have HV := Lib.hid INV
    have hi0 : (0 : Int) ≤ (i : Int) := by omega
    have hib : (i : Int) ≤ 250 := by omega
    have hfew := INV.good.few
    by_cases hgo : i < ss.length ∧ i < 250
    · obtain ⟨hil, hi2⟩ := hgo
      have hili : (i : Int) < (ss.length : Int) := by omega
      have hi2i : (i : Int) < 250 := by omega
      obtain ⟨b, o, rfl, _, p7⟩ := seven_at ((HA.out.fresh (Nat.le_refl _) INV.frm).more INV.frm.size) hil
      have hsok := HOK.out _ (List.getElem_mem hil)
      obtain ⟨s, hs⟩ : ∃ s, s = ss[i] := ⟨_, rfl⟩
      rw [← hs] at p7 hsok
      clear hs
      have hkey : keyOf Try.prog 3 (.int .i64 s.x.id) = some (keyD s.x.id) := Maps.keyOf_int_mk Try.underlying3 hsok.wid
      obtain ⟨so, ⟨xi, xc, xm, xt, xs⟩, ⟨lA, lc, lz⟩⟩ := s
      obtain ⟨c0, c1, c2, c3, c4, c5, c6⟩ := p7
      dsimp only [sv] at c0 c1 c2 c3 c4 c5 c6 hkey
      have HKEY := Lib.hid hkey
      obtain ⟨W, hW⟩ : ∃ W, W = wr.alloc (.cells #[.int .i64 so, .int .i64 xi, .int .i64 xc, .int .i64 xm, .int .i64 xt, .float .f64 xs, .slice lA lz.length lc] 39) := ⟨_, rfl⟩
      have FW : Fresh wr W := by rw [hW]; exact (Frm.refl _ wr).alloc _
      have HW := Lib.hid (HV.out.fresh FW)
      have BOX : Blk W wr.heap.size 39 (scells ⟨so, ⟨xi, xc, xm, xt, xs⟩, ⟨lA, lc, lz⟩⟩).toArray := by rw [hW]; exact Blk.new wr _ _
      have HBOX := Lib.hid BOX
      have hb4 := HV.out.q.blk.lt
      have SEV : Hid (∀ (u : Value) (w' : World), u = v → Frm (fun k => k = b4 ∨ u.ownBlock = some k) W w' → Seven w' wr.heap.size 0 ⟨so, ⟨xi, xc, xm, xt, xs⟩, ⟨lA, lc, lz⟩⟩) := Lib.hid fun u w' hu F => seven_blk (BOX.frm F (fun hh => hh.elim (fun e => by omega) (fun e => by
        rw [hu] at e
        have := (HV.out.q.sl.lt _ e).2
        omega)))
      have hmblt := HV.out.om.lt
      have SEV2 : Hid (∀ (w2 w' : World), Seven w2 wr.heap.size 0 ⟨so, ⟨xi, xc, xm, xt, xs⟩, ⟨lA, lc, lz⟩⟩ → w2.grownBy w' (some mb) → Seven w' wr.heap.size 0 ⟨so, ⟨xi, xc, xm, xt, xs⟩, ⟨lA, lc, lz⟩⟩) := Lib.hid fun w2 w' h g => by
        have F : Frm (fun k => some mb = some k) w2 w' := Frm.of_grown g
        have k : ∀ j u, w2.cell? ⟨wr.heap.size, j, none⟩ = some u → w'.cell? ⟨wr.heap.size, j, none⟩ = some u := fun j u hu => (F.cell (World.block_lt_of_cell? _ _ hu) (fun f => by
          have := Option.some.inj f
          simp only at this
          omega)).trans hu
        exact ⟨k _ _ h.1, k _ _ h.2.1, k _ _ h.2.2.1, k _ _ h.2.2.2.1, k _ _ h.2.2.2.2.1, k _ _ h.2.2.2.2.2.1, k _ _ h.2.2.2.2.2.2⟩
      clear BOX FW INV hsok hkey
      by_cases hop : so = 0
      · subst hop
        have HA1 := Lib.hid (add_any W w.heap.size b4 v l ⟨xi, xc, xm, xt, xs⟩ HW.out.q HW.out.good)
        unfold wagg at HA1
        rw [hW] at HA1
        go_wp2_with fail
        refine HA1.out.mono ?_
        rw [← hW]
        rintro e w5 ⟨rfl, s1⟩
        obtain ⟨v2, q5, om5, f5, F5⟩ := HW.out.mid s1
        obtain ⟨d0, d1, d2, d3, d4, d5, d6⟩ := SEV.out v w5 rfl F5
        have HS5 := Lib.hid (SEV.out v w5 rfl F5)
        dsimp only at d0 d1 d2 d3 d4 d5 d6
        have HQ5 := Lib.hid q5
        have HOM5 := Lib.hid om5
        have HF5 := Lib.hid f5
        obtain ⟨c, hc⟩ : ∃ c, c = (add ⟨xi, xc, xm, xt, xs⟩ l).1 := ⟨_, rfl⟩
        rw [← hc]
        clear s1 q5 om5 f5 F5 hW c0 c1 c2 c3 c4 c5 c6
        by_cases hcz : c = 0
        · subst hcz
          have HC := Lib.hid hc.symm
          have hask := OM.ask HOM5.out K Try.underlying36 Try.underlying4 (zero_bool w5) HKEY.out (r := false) (by
            have := HW.out.at_ xi
            rw [(add_ok hc.symm).2] at this
            exact this)
          clear hc
          go_wp2_with (at_mapUpdate; refine wpList_mapUpdate_own _ rfl _ _ _ 36 rfl 3 4 K Try.underlying36 _ mb n D rfl HOM5.out (by unfold maxLen; omega) _ _ _ rfl rfl HKEY.out (.lit (.bool true)) [] (plainElem_bool Try.underlying4 true) ?_; intro w6 om6 g6; have HI6 := Lib.hid (HW.out.put HC.out HQ5.out HOM5.out HF5.out om6 g6); obtain ⟨m0, m1, m2, m3, m4, m5, m6⟩ := SEV2.out _ _ HS5.out g6; dsimp only at m0 m1 m2 m3 m4 m5 m6; clear om6 g6)
          go_roundw
          case rel => exact ⟨i + 1, v2, _, n + 1, _, by omega, by omega, by omega, by go_num, HI6.out⟩
          case measure => simp [intOf]; omega
        · have hcb : (c == 0) = false := by rw [beq_eq_false_iff_ne]; exact hcz
          have e2 := add_no (x := ⟨xi, xc, xm, xt, xs⟩) (l := l) (by rw [← hc]; exact hcz)
          rw [e2] at HQ5
          have HI6 : Hid (EachInv w b4 mb v2 l n D w5) := Lib.hid ⟨HQ5.out, HW.out.good, HOM5.out, HW.out.mge, HW.out.has_, HW.out.at_, HW.out.size, HF5.out⟩
          clear hc e2
          go_wp2_with fail
          go_roundw
          case rel => exact ⟨i + 1, v2, l, n, D, by omega, by omega, by omega, by go_num, HI6.out⟩
          case measure => simp [intOf]; omega
      · by_cases hop1 : so = 1
        · subst hop1
          have HA1 := Lib.hid (remove_any W w.heap.size b4 v l xi HW.out.q (by omega))
          rw [hW] at HA1
          go_wp2_with fail
          refine HA1.out.mono ?_
          rw [← hW]
          rintro e w5 ⟨rfl, s1⟩
          obtain ⟨v2, q5, om5, f5, F5⟩ := HW.out.mid s1
          obtain ⟨d0, d1, d2, d3, d4, d5, d6⟩ := SEV.out v w5 rfl F5
          dsimp only at d0 d1 d2 d3 d4 d5 d6
          have HQ5 := Lib.hid q5
          have HOM5 := Lib.hid om5
          have HF5 := Lib.hid f5
          have hask := OM.ask HOM5.out K Try.underlying36 Try.underlying4 (zero_bool w5) HKEY.out (r := QueueM.has xi l) (HW.out.at_ xi)
          have hb : ((remove xi l).1 == 0) = QueueM.has xi l := by
            rcases remove_cases xi l with ⟨h1, h2⟩ | ⟨h1, h2⟩
            · rw [h1, h2]; rfl
            · rw [h1, h2]; rfl
          generalize (remove xi l).1 = c at hb
          generalize QueueM.has xi l = r at hb hask
          clear s1 q5 om5 f5 F5 hW c0 c1 c2 c3 c4 c5 c6
          go_wp2_with (at_delete; refine wpList_delete_own _ rfl _ _ 36 3 rfl 4 K Try.underlying36 _ mb n D rfl HOM5.out _ _ rfl HKEY.out ?_; intro w6 om6 t6)
          have HI6 := Lib.hid (HW.out.cut HQ5.out HOM5.out HF5.out om6 t6.grown)
          clear om6 t6
          go_wp2_with fail
          go_roundw
          case rel => exact ⟨i + 1, v2, _, n, _, by omega, by omega, by omega, by go_num, HI6.out⟩
          case measure => simp [intOf]; omega
        · have hop0 : (so == 0) = false := by rw [beq_eq_false_iff_ne]; exact hop
          have hop1b : (so == 1) = false := by rw [beq_eq_false_iff_ne]; exact hop1
          rw [hW] at HW
          clear hW
          go_wp2_with fail
          go_roundw
          case rel => exact ⟨i + 1, v, l, n, D, by omega, by omega, by omega, by go_num, HW.out⟩
          case measure => simp [intOf]; omega
    · have HEND : Hid (¬ (i : Int) < (ss.length : Int) ∨ ((i : Int) < (ss.length : Int) ∧ ¬ (i : Int) < 250)) := Lib.hid (by
        by_cases h : i < ss.length
        · exact .inr ⟨by omega, fun h2 => hgo ⟨h, by omega⟩⟩
        · exact .inl (by omega))
      have HALL := Lib.hid (all_any wr w.heap.size b4 v l INV.q (by omega))
      have HMEM : Hid (∀ j (hj : j < l.length), D.atKey (keyD l[j].id) (.lit (.bool false)) = .lit (.bool true) ∧ keyOf Try.prog 3 (.int .i64 l[j].id) = some (keyD l[j].id)) := Lib.hid fun j hj => by
        have hr := (right_iff _).1 (HV.out.good.right _ (List.getElem_mem hj))
        refine ⟨?_, Maps.keyOf_int_mk Try.underlying3 (id_wf hr.1 hr.2.1)⟩
        rw [HV.out.at_, has_iff.2 ⟨_, List.getElem_mem hj, rfl⟩]
      have HSZ := Lib.hid INV.size
      clear INV hgo
      rcases HEND.out with hh | ⟨hh, hh2⟩
      all_goals
        go_wp2_with fail
        refine HALL.out.mono ?_
        rintro e w4 ⟨u4, rfl, hs4, f4⟩
        have HV4 := Lib.hid (HV.out.fresh f4)
        obtain ⟨A4, c4, rfl, hc4, hc42, _⟩ := hs4.shape
        unfold maxLen at hc42
        have HS4 := Lib.hid hs4
        clear f4 hs4
        go_wp2_with fail
        go_loopw [11] (fun v11 wq => ∃ j : Nat, j ≤ l.length ∧ v11 = .int .i64 (j : Int) ∧ w4 = wq) (fun v11 _ => l.length - (intOf v11).toNat)
        case atStart => exact ⟨0, by omega, rfl, rfl⟩
        case round =>
          obtain ⟨j, hj, rfl, rfl⟩ := hrel
          have hj0 : (0 : Int) ≤ (j : Int) := by omega
          by_cases hjl : j < l.length
          · obtain ⟨b, o, rfl, _, p5⟩ := five_at HS4.out.rd hjl
            obtain ⟨hm1, hm2⟩ := HMEM.out j hjl
            have hask := OM.ask HV4.out.om K Try.underlying36 Try.underlying4 (zero_bool w4) hm2 (r := true) hm1
            have c0 := p5.1
            generalize (l[j]).id = y at hask c0
            have hji : (j : Int) < (l.length : Int) := by omega
            clear p5 hm1 hm2
            go_wp2_with fail
            go_roundw
            case rel => exact ⟨j + 1, by omega, by go_num, trivial⟩
            case measure => simp [intOf]; omega
          · have hji : ¬ (j : Int) < (l.length : Int) := by omega
            have hlen2 := fun ty => HV4.out.om.len Try.underlying36 ty
            rw [HSZ.out] at hlen2
            go_wp2_with fail
            go_ret
            exact ⟨by simp, Fresh.below HV4.out.frm⟩
theorem each_walk (w : World) (s : Option Addr × Nat × List Raw) (hs : IsL w 72 sf7 (sq7 w) s) :
    Calls Try.prog 4 #[sv s] w fun e w' => e = .returned (.bool true) ∧ Below w.heap.size w w' := by
  obtain ⟨A, cap, l⟩ := s
  have hle : l.length ≤ cap := hs.le
  have hm : cap ≤ maxLen := hs.most
  unfold maxLen at hm
  have hr : Rd w w.heap.size A ((l.map toStp).flatMap scells) := by rw [← map_stp]; exact hs.rd
  have h := each_law w A cap (l.map toStp) hr (stp_ok hs.all) (by rw [List.length_map]; omega)
  rw [List.length_map] at h
  exact h
end Go.Proofs.Ythofodjklogfgaa

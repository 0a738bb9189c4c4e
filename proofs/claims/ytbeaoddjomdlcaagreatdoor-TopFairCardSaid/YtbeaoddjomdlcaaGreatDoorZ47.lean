/- Proved here, for the statement TopFairCardSaid: laws that its walk leans on. It holds with no condition. (Put together and shortened by a program out of many texts: To64, NumR, Queue24, Queue25, Queue26, Queue27, Queue28.) -/
import Derived.Test.YtbeaoddjomdlcaaGreatDoorZ43
import Derived.Test.YtbeaoddjomdlcaaGreatDoorZ46
set_option linter.unusedVariables false
set_option linter.unusedSimpArgs false
set_option maxRecDepth 100000
set_option maxHeartbeats 64000000
namespace Go.Proofs.YtbeaoddjomdlcaaGreatDoor
section
open Go.RowKit
open QueueM (Wt)
def loadQ : Nat → RS → Option (List (List Wt) × RS)
  | 0, s => some ([], s)
  | n + 1, s => if (rdt 65536 (rdt 65536 s).2).2.2 = true then none else match QueueM.decR (rdt 65536 (rdt 65536 s).2).1 with
    | none => none
    | some q => (loadQ n (rdt 65536 (rdt 65536 s).2).2).map fun p => (q :: p.1, p.2)
theorem loadQ_snoc : ∀ (k : Nat) (s0 : RS) (qs : List (List Wt)) (s : RS) (q : List Wt), loadQ k s0 = some (qs, s) → (rdt 65536 (rdt 65536 s).2).2.2 = false → QueueM.decR (rdt 65536 (rdt 65536 s).2).1 = some q → loadQ (k + 1) s0 = some (qs ++ [q], (rdt 65536 (rdt 65536 s).2).2)
  | 0, s0, qs, s, q, h, h1, h2 => by
    unfold loadQ at h
    injection h with h
    injection h with e1 e2
    subst e1 e2
    unfold loadQ
    rw [if_neg (by rw [h1]; decide), h2]
    rfl
  | k + 1, s0, qs, s, q, h, h1, h2 => by
    unfold loadQ at h
    split at h
    · cases h
    · rename_i hn
      cases hd : QueueM.decR (rdt 65536 (rdt 65536 s0).2).1 with
      | none => rw [hd] at h; cases h
      | some q0 =>
        rw [hd] at h
        dsimp only at h
        obtain ⟨p, hp, e⟩ := Option.map_eq_some_iff.1 h
        obtain ⟨p1, p2⟩ := p
        injection e with e1 e2
        dsimp only at e1 e2
        subst e1 e2
        have := loadQ_snoc k _ p1 p2 q hp h1 h2
        unfold loadQ
        rw [if_neg hn, hd]
        dsimp only
        rw [this]
        rfl
section
variable {w w1 w' : World} {B b g : Nat} {M : BkD}
theorem BookAt.other (h : BookAt w B b M) {S : Nat → Prop} (F : Frm S w w') (hb : ¬ S b) (hF : ∀ k, (Value.slice M.FA M.fs.length M.fc).ownBlock = some k → ¬ S k) (hL : ∀ k, (Value.slice M.LA M.l.length M.lc).ownBlock = some k → ¬ S k)
    (hT : ∀ k e cs, Blk w k e cs → e = 3 ∨ e = 139 ∨ e = 167 ∨ e = 63 ∨ e = 69 → ¬ S k) : BookAt w' B b M :=
  ⟨h.blk.frm F hb, h.ge, h.fsl.frm F hF, h.lsl.frm F hL, fun p hp => ⟨(h.fl p hp).1.other F (hT _ _ _ (h.fl p hp).1.blk (.inr (.inr (.inl rfl)))) (fun k e cs hc he _ => hT k e cs hc (by rcases he with rfl | rfl; exact .inl rfl; exact .inr (.inl rfl))), (h.fl p hp).2⟩,
    fun p hp => (h.qu p hp).frm F (hT _ _ _ (h.qu p hp).blk (.inr (.inr (.inr (.inl rfl))))) (fun k hk => by
      obtain ⟨_, cs, hc⟩ := own_type (h.qu p hp).sl hk
      exact hT k _ cs hc (.inr (.inr (.inr (.inr rfl)))))⟩
theorem BookAt.rdr (h : BookAt w B b M) {cs : Array Value} (hg : Blk w g 104 cs) (F : Frm (fun k => k = g) w w') : BookAt w' B b M :=
  h.other F (h.blk.apart hg (by decide)) (fun k hk e => by subst e; exact h.fsl.apart hg (by decide) hk) (fun k hk e => by subst e; exact h.lsl.apart hg (by decide) hk) (fun k e cs' hc he s => by subst s; rcases he with rfl | rfl | rfl | rfl | rfl <;> exact hc.apart hg (by decide) rfl)
theorem BookAt.box (h : BookAt w B b M) {cs : Array Value} (hg : Blk w g 113 cs) (hn : (Value.slice M.LA M.l.length M.lc).ownBlock ≠ some g) (F : Frm (fun k => k = g) w w') : BookAt w' B b M :=
  h.other F (h.blk.apart hg (by decide)) (fun k hk e => by subst e; exact h.fsl.apart hg (by decide) hk) (fun k hk e => by subst e; exact hn hk) (fun k e cs' hc he s => by subst s; rcases he with rfl | rfl | rfl | rfl | rfl <;> exact hc.apart hg (by decide) rfl)
theorem BookAt.addPl (h : BookAt w B b M) (p : PlD) (hf : FlAt w B p.f p.m) (hB : B ≤ p.f) (hq : IsR w B p.q p.v p.ws) {A3 : Option Addr} {c3 : Nat}
    (hs : Sl w1 B 67 2 (.slice A3 (M.fs.length + 1) c3) (M.fs.length + 1) (M.fs.flatMap pcel ++ pcel p)) (F : Frm (fun k => (Value.slice M.FA M.fs.length M.fc).ownBlock = some k) w w1) :
    BookAt (w1.setCell ⟨b, 2, none⟩ (.slice A3 (M.fs.length + 1) c3)) B b { M with FA := A3, fc := c3, fs := M.fs ++ [p] } := by
  have hap : ∀ k e cs, Blk w k e cs → e ≠ 67 → ¬ (Value.slice M.FA M.fs.length M.fc).ownBlock = some k := fun k e cs hc he hk => by
    obtain ⟨_, cs2, hc2⟩ := own_type h.fsl hk
    exact hc.apart hc2 he rfl
  have fl1 : ∀ {f : Nat} {m : FlM}, FlAt w B f m → FlAt w1 B f m := fun hh => hh.other F (hap _ _ _ hh.blk (by decide)) (fun k e cs hc he _ => hap k e cs hc (by rcases he with rfl | rfl <;> decide))
  have q1 : ∀ {q : Nat} {v : Value} {l : List Wt}, IsR w B q v l → IsR w1 B q v l := fun hh => hh.frm F (hap _ _ _ hh.blk (by decide)) (fun k hk => by
    obtain ⟨_, cs2, hc2⟩ := own_type hh.sl hk
    exact hap k _ cs2 hc2 (by decide))
  have hb1 := h.blk.frm F (hap _ _ _ h.blk (by decide))
  have hl1 : (M.fs ++ [p]).length = M.fs.length + 1 := by simp
  have FS : Frm (fun k => k = b) w1 (w1.setCell ⟨b, 2, none⟩ (.slice A3 (M.fs.length + 1) c3)) := (Frm.refl (fun k => k = b) w1).setCell (p := ⟨b, 2, none⟩) (fun _ => rfl) _
  have hset := hb1.set 2 (.slice A3 (M.fs.length + 1) c3)
  refine ⟨?_, h.ge, ?_, ?_, fun z hz => ?_, fun z hz => ?_⟩
  · unfold bkcel
    dsimp only
    rw [hl1]
    exact hset
  · dsimp only
    rw [hl1, List.flatMap_append, List.flatMap_singleton]
    exact hs.frm FS (fun k hk e => by subst e; exact hs.apart hb1 (by decide) hk)
  · have := h.lsl.frm F (fun k hk hk2 => by
      obtain ⟨_, cs2, hc2⟩ := own_type h.lsl hk
      exact hap k _ cs2 hc2 (by decide) hk2)
    exact this.frm FS (fun k hk e => by subst e; exact this.apart hb1 (by decide) hk)
  · dsimp only at hz
    have hz' : FlAt w B z.f z.m ∧ B ≤ z.f := by
      rcases List.mem_append.1 hz with hz | hz
      · exact h.fl z hz
      · rw [List.mem_singleton] at hz; rw [hz]; exact ⟨hf, hB⟩
    have h1 := fl1 hz'.1
    exact ⟨h1.other FS (h1.blk.apart hb1 (by decide)) (fun k e cs hc he _ s => by subst s; rcases he with rfl | rfl <;> exact hc.apart hb1 (by decide) rfl), hz'.2⟩
  · dsimp only at hz
    have hz' : IsR w B z.q z.v z.ws := by
      rcases List.mem_append.1 hz with hz | hz
      · exact h.qu z hz
      · rw [List.mem_singleton] at hz; rw [hz]; exact hq
    have h1 := q1 hz'
    exact h1.frm FS (h1.blk.apart hb1 (by decide)) (fun k hk s => by subst s; exact h1.sl.apart hb1 (by decide) hk)
theorem BookAt.addBk (h : BookAt w B b M) (x : BkR) {A3 : Option Addr} {c3 : Nat}
    (hs : Sl w1 B 113 6 (.slice A3 (M.l.length + 1) c3) (M.l.length + 1) (M.l.flatMap bcel ++ bcel x)) (F : Frm (fun k => (Value.slice M.LA M.l.length M.lc).ownBlock = some k) w w1) :
    BookAt (w1.setCell ⟨b, 3, none⟩ (.slice A3 (M.l.length + 1) c3)) B b { M with LA := A3, lc := c3, l := M.l ++ [x] } := by
  have hap : ∀ k e cs, Blk w k e cs → e ≠ 113 → ¬ (Value.slice M.LA M.l.length M.lc).ownBlock = some k := fun k e cs hc he hk => by
    obtain ⟨_, cs2, hc2⟩ := own_type h.lsl hk
    exact hc.apart hc2 he rfl
  have hb1 := h.blk.frm F (hap _ _ _ h.blk (by decide))
  have hl1 : (M.l ++ [x]).length = M.l.length + 1 := by simp
  have FS : Frm (fun k => k = b) w1 (w1.setCell ⟨b, 3, none⟩ (.slice A3 (M.l.length + 1) c3)) := (Frm.refl (fun k => k = b) w1).setCell (p := ⟨b, 3, none⟩) (fun _ => rfl) _
  have hset := hb1.set 3 (.slice A3 (M.l.length + 1) c3)
  refine ⟨?_, h.ge, ?_, ?_, fun z hz => ?_, fun z hz => ?_⟩
  · unfold bkcel
    dsimp only
    rw [hl1]
    exact hset
  · have := h.fsl.frm F (fun k hk hk2 => by
      obtain ⟨_, cs2, hc2⟩ := own_type h.fsl hk
      exact hap k _ cs2 hc2 (by decide) hk2)
    exact this.frm FS (fun k hk e => by subst e; exact this.apart hb1 (by decide) hk)
  · dsimp only
    rw [hl1, List.flatMap_append, List.flatMap_singleton]
    exact hs.frm FS (fun k hk e => by subst e; exact hs.apart hb1 (by decide) hk)
  · have h1 := (h.fl z hz).1.other F (hap _ _ _ (h.fl z hz).1.blk (by decide)) (fun k e cs hc he _ => hap k e cs hc (by rcases he with rfl | rfl <;> decide))
    exact ⟨h1.other FS (h1.blk.apart hb1 (by decide)) (fun k e cs hc he _ s => by subst s; rcases he with rfl | rfl <;> exact hc.apart hb1 (by decide) rfl), (h.fl z hz).2⟩
  · have h1 := (h.qu z hz).frm F (hap _ _ _ (h.qu z hz).blk (by decide)) (fun k hk => by
      obtain ⟨_, cs2, hc2⟩ := own_type (h.qu z hz).sl hk
      exact hap k _ cs2 hc2 (by decide))
    exact h1.frm FS (h1.blk.apart hb1 (by decide)) (fun k hk s => by subst s; exact h1.sl.apart hb1 (by decide) hk)
end
theorem info_pl : (Tryz.prog.info? 67).map (fun i => (i.zero, i.size, i.bytes)) = some (some (.agg #[.pointer none, .pointer none]), 2, 16) := by kernel_rfl
theorem info_bk : (Tryz.prog.info? 113).map (fun i => (i.zero, i.size, i.bytes)) = some (some (.agg #[.int .i64 0, .int .i64 0, .int .i64 0, .int .i64 0, .int .i64 0, .int .i64 0]), 6, 48) := by kernel_rfl
end
section
open Go.RowKit
theorem refNumber_any (N : Nat) (hN : N < 18446744073709551616) (w : World) :
    Calls Tryz.prog 129 #[.int .u64 (N : Int)] w fun e w' => ∃ v, e = .returned v ∧ Sl w' w.heap.size 5 1 v (FieldM.num N).length ((FieldM.num N).map bv) ∧ Fresh w w' := by
  obtain ⟨i0, hi, hz0, hz1, hz2⟩ := info_parts info_u8
  have hw := FieldM.wid_le hN
  have HN := zh hN
  clear hN
  go_in
  go_wp2_with fail
  go_loopw [0, 3] (fun v0 v3 wr => ∃ k m : Nat, k ≤ FieldM.wid N ∧ m = N / 256 ^ k ∧ v0 = .int .u64 (m : Int) ∧ Sl wr w.heap.size 5 1 v3 k ((FieldM.be k N).map bv) ∧ Fresh w wr) (fun v0 _ _ => (RowKit.intOf v0).toNat)
  case atStart => exact ⟨0, N, Nat.zero_le _, by simp, rfl, Sl.nil _ _ _ _, Frm.refl _ _⟩
  case round =>
    obtain ⟨k, m, hk, hm, rfl, hsl, hfr⟩ := hrel
    have hsz := hfr.size
    have hml : m ≤ 18446744073709551615 := by rw [hm]; have := HN.out; have := Nat.div_le_self N (256 ^ k); omega
    have HM := zh hm
    clear hm
    obtain ⟨A, cap, rfl, hkc, hcm, hno⟩ := hsl.shape
    by_cases h0 : 0 < m
    · have hlt : k < FieldM.wid N := by
        rcases Nat.lt_or_ge k (FieldM.wid N) with h | h
        · exact h
        · have h1 := (FieldM.wid_lt k N HN.out).2 h
          have h2 := HM.out
          rw [Nat.div_eq_of_lt h1] at h2
          omega
      go_wp2_with (at_builtin; refine wpList_append_sl _ rfl (.tmp 9) (.tmp 10) _ rfl w.heap.size 5 i0 _ 1 1 Tryz.underlying56 hi hz0 hz1 hz2 rfl (by omega) _ _ _ rfl (sl_new wr _ [_] _ hsz (by simp [maxLen])) _ _ k _ _ rfl (by rw [List.length_map, FieldM.be_length]; omega) ((hsl.alloc _).rd) ?c1 ?c2 ?c3 ?c4 ?_)
      case c1 => exact bv_one _
      case c2 => unfold maxLen; simp; omega
      case c3 => simp; omega
      case c4 => simp; omega
      intro v2 w2 hs2 hf2 _
      have hb : Value.int IntKind.u8 ((m : Int) % 256) = bv (UInt8.ofNat (N / 256 ^ k % 256)) := bv_eq (by rw [UInt8.toNat_ofNat', ← HM.out]; omega)
      have hs3 : Sl w2 w.heap.size 5 1 v2 (k + 1) ((FieldM.be (k + 1) N).map bv) := by
        rw [FieldM.be_cons, List.map_cons, ← hb, Nat.add_comm k 1]
        exact hs2
      have hf3 : Fresh w w2 := (hfr.alloc _).trans' hf2 (fun i hi hk => by simp [Value.ownBlock] at hk; omega)
      clear hs2 hf2 hb
      go_wp2
      go_roundw
      case rel => exact ⟨k + 1, m / 256, by omega, by rw [Nat.pow_succ, ← Nat.div_div_eq_div_mul, ← HM.out], by go_num, hs3, hf3⟩
      case measure => simp [RowKit.intOf]; omega
    · go_wp2_with (at_builtin; refine wpList_append_sl _ rfl (.tmp 17) (.tmp 18) _ rfl w.heap.size 5 i0 _ 1 1 Tryz.underlying56 hi hz0 hz1 hz2 rfl (by omega) _ _ _ rfl (sl_new wr _ [_] _ hsz (by simp [maxLen])) _ _ k _ _ rfl (by rw [List.length_map, FieldM.be_length]; omega) ((hsl.alloc _).rd) ?c1 ?c2 ?c3 ?c4 ?_)
      case c1 => exact bv_one _
      case c2 => unfold maxLen; simp; omega
      case c3 => simp; omega
      case c4 => simp; omega
      intro v2 w2 hs2 hf2 _
      have hkw : k = FieldM.wid N := by
        rcases Nat.lt_or_ge k (FieldM.wid N) with h | h
        · have h1 : ¬ N < 256 ^ k := fun h1 => by have := (FieldM.wid_lt k N HN.out).1 h1; omega
          have h2 := HM.out
          have h3 : 0 < N / 256 ^ k := Nat.div_pos (by omega) (Nat.pow_pos (by omega))
          omega
        · omega
      have hb : Value.int IntKind.u8 (k : Int) = bv (UInt8.ofNat (FieldM.wid N)) := bv_eq (by rw [UInt8.toNat_ofNat', ← hkw]; omega)
      have hs3 : Sl w2 w.heap.size 5 1 v2 (FieldM.num N).length ((FieldM.num N).map bv) := by
        rw [FieldM.num_length, FieldM.num, List.map_cons, ← hb, ← hkw, Nat.add_comm k 1]
        exact hs2
      have hf3 : Fresh w w2 := (hfr.alloc _).trans' hf2 (fun i hi hk => by simp [Value.ownBlock] at hk; omega)
      clear hs2 hf2 hb hkw
      go_wp2
      go_ret
      exact ⟨_, rfl, hs3, hf3⟩
end
section
open Go.RowKit QueueM
attribute [local go_sem] run_store_float
set_option maxRecDepth 100000 in
theorem refEncode_any (w : World) (B b : Nat) (v : Value) (l : List Wt) (h : IsR w B b v l) (hg : QueueM.Good l) (hw : Words l) :
    Calls Tryz.prog 83 #[.pointer (some ⟨b, 0, none⟩)] w fun e w' => EncPost w l e w' := by
  obtain ⟨i0, hi, hz0, hz1, hz2⟩ := info_parts info_u8
  have HQ := zh h
  have HG := zh hg
  have HW := zh hw
  have hfew := hg.few
  obtain ⟨A1, c1, rfl, _, _, _⟩ := h.sl.shape
  have hc0 : w.cell? ⟨b, 0, none⟩ = some (.slice A1 l.length c1) := h.blk.cell 0
  clear h hg hw
  go_in
  go_wp2_with fail
  refine (refNumber_any l.length (by omega) w).mono ?_
  rintro e w1 ⟨v1, rfl, hs1, f1⟩
  have HS1 := zh hs1
  have HF1 := zh f1
  have hc1 : w1.cell? ⟨b, 0, none⟩ = some (.slice A1 l.length c1) := (HQ.out.fresh f1).blk.cell 0
  clear hs1 f1 hc0
  go_wp2_with fail
  clear hc1
  go_loopw [3, 4] (fun v3 v4 wr => ∃ (i : Nat) (P : List UInt8), i ≤ l.length ∧ v4 = .int .i64 (i : Int) ∧ P = FieldM.num l.length ++ (l.take i).flatMap wenc ∧ P.length ≤ 9 + 45 * i ∧ Sl wr w.heap.size 5 1 v3 P.length (P.map bv) ∧ Fresh w wr) (fun _ v4 _ => l.length - (RowKit.intOf v4).toNat)
  case atStart => exact ⟨0, FieldM.num l.length, by omega, rfl, by simp, num_le (by omega), HS1.out, HF1.out⟩
  case round =>
    clear HS1 HF1
    obtain ⟨i, P, hi1, rfl, hP, hPl, hs, hf⟩ := hrel
    have HP := zh hP
    have HS := zh hs
    have HF := zh hf
    have hi0 : (0 : Int) ≤ (i : Int) := by omega
    clear hP
    have hcb : wr.cell? ⟨b, 0, none⟩ = some (.slice A1 l.length c1) := (HQ.out.fresh hf).blk.cell 0
    by_cases hlt : i < l.length
    · obtain ⟨bl, ol, rfl, _, p5⟩ := five_at ((HQ.out.sl.rd.fresh (Nat.le_refl _) hf).more hf.size) hlt
      have hrt := HG.out.right _ (List.getElem_mem hlt)
      have hwd := HW.out _ (List.getElem_mem hlt)
      have HT := zh (take_wenc l hlt)
      obtain ⟨x, hx⟩ : ∃ x, x = l[i] := ⟨_, rfl⟩
      rw [← hx] at p5 hrt hwd HT
      clear hx
      have hnl := nums_lt hrt hwd
      have hr8 := (right_iff x).1 hrt
      have HKEY := zh (fun w => refKey_any x.score hwd w)
      clear hwd hrt
      obtain ⟨xi, xc, xm, xt, xs⟩ := x
      obtain ⟨k0, k1, k2, k3, k4⟩ := p5
      dsimp only at k0 k1 k2 k3 k4 hr8 HKEY
      obtain ⟨ii, rfl⟩ := Int.eq_ofNat_of_zero_le (show 0 ≤ xi by omega)
      obtain ⟨ic, rfl⟩ := Int.eq_ofNat_of_zero_le (show 0 ≤ xc by omega)
      obtain ⟨im, rfl⟩ := Int.eq_ofNat_of_zero_le (show 0 ≤ xm by omega)
      obtain ⟨it, rfl⟩ := Int.eq_ofNat_of_zero_le (show 0 ≤ xt by omega)
      obtain ⟨ns, hns⟩ : ∃ ns, ns = nums ⟨(ii : Int), (ic : Int), (im : Int), (it : Int), xs⟩ := ⟨_, rfl⟩
      have HNS : Hid (ns = [ii, ic, im, it, FareM.key xs]) := zh hns
      have HNL : Hid (∀ n ∈ ns, n < 18446744073709551616) := zh (by rw [hns]; exact hnl)
      have HWE : Hid (wenc ⟨(ii : Int), (ic : Int), (im : Int), (it : Int), xs⟩ = ns.flatMap FieldM.num) := zh (by rw [hns]; rfl)
      have hn5 : ns.length = 5 := by rw [HNS.out]; rfl
      rw [HWE.out] at HT
      have r1 : (ii : Int) ≤ 28629151 := hr8.2.1
      have r2 : (ic : Int) ≤ 7 := hr8.2.2.2.1
      have r3 : (im : Int) ≤ 600 := hr8.2.2.2.2.2.1
      have r4 : (it : Int) ≤ 1099511627776 := hr8.2.2.2.2.2.2.2
      have s1 : (0 : Int) ≤ (ii : Int) := by omega
      have s2 : (0 : Int) ≤ (ic : Int) := by omega
      have s3 : (0 : Int) ≤ (im : Int) := by omega
      have s4 : (0 : Int) ≤ (it : Int) := by omega
      have hlti : (i : Int) < (l.length : Int) := by omega
      clear hnl hns hr8
      go_wp2_with fail
      obtain ⟨W, hW⟩ : ∃ W, wr.alloc (.cells #[.int .i64 (ii : Int), .int .i64 (ic : Int), .int .i64 (im : Int), .int .i64 (it : Int), .float .f64 xs] 69) = W := ⟨_, rfl⟩
      rw [hW]
      have FW : Fresh wr W := by rw [← hW]; exact (Frm.refl _ wr).alloc _
      have CELL : Hid (∀ w', Fresh W w' → w'.cell? ⟨wr.heap.size, 0, none⟩ = some (.int .i64 (ii : Int)) ∧ w'.cell? ⟨wr.heap.size, 1, none⟩ = some (.int .i64 (ic : Int)) ∧ w'.cell? ⟨wr.heap.size, 2, none⟩ = some (.int .i64 (im : Int)) ∧ w'.cell? ⟨wr.heap.size, 3, none⟩ = some (.int .i64 (it : Int)) ∧ w'.cell? ⟨wr.heap.size, 4, none⟩ = some (.float .f64 xs)) := zh fun w' F => by
        have B1 : Blk W wr.heap.size 69 (wcells ⟨(ii : Int), (ic : Int), (im : Int), (it : Int), xs⟩).toArray := by rw [← hW]; exact Blk.new wr _ _
        have d := five_blk (B1.frm F (fun f => f))
        exact ⟨d.1, d.2.1, d.2.2.1, d.2.2.2.1, d.2.2.2.2⟩
      have HFW := zh FW
      clear hW FW k0 k1 k2 k3 k4 hs hf hcb
      go_wp2_with fail
      go_region_held3 (fun w' => w'.cell? ⟨wr.heap.size, 0, none⟩ = some (.int .i64 (ii : Int)) ∧ w'.cell? ⟨wr.heap.size, 1, none⟩ = some (.int .i64 (ic : Int)) ∧ w'.cell? ⟨wr.heap.size, 2, none⟩ = some (.int .i64 (im : Int)) ∧ w'.cell? ⟨wr.heap.size, 3, none⟩ = some (.int .i64 (it : Int)) ∧ w'.cell? ⟨wr.heap.size, 4, none⟩ = some (.float .f64 xs))
        (first | exact CELL.out _ (Frm.refl _ _) | exact CELL.out _ ((Frm.refl _ _).drew) | exact CELL.out _ (((Frm.refl _ _).alloc _).drew) | exact CELL.out _ (((Frm.refl _ _).drew).alloc _))
        (first
          | (go_at_call 130; refine (HKEY.out _).mono ?_; rintro e w3 ⟨rfl, rfl⟩))
      obtain ⟨w4, hw4⟩ : ∃ w4, (W.alloc (.cells #[.int .u64 (IntKind.u64.wrap (ii : Int)), .int .u64 (IntKind.u64.wrap (ic : Int)), .int .u64 (IntKind.u64.wrap (im : Int)), .int .u64 (IntKind.u64.wrap (it : Int)), .int .u64 (FareM.key xs : Int)] 105)).drew = w4 := ⟨_, rfl⟩
      rw [hw4]
      have F4 : Fresh W w4 := by rw [← hw4]; exact ((Frm.refl _ W).alloc _).drew
      have R5 : Hid (Blk w4 W.heap.size 105 (ns.map fun n : Nat => Value.int .u64 (n : Int)).toArray) := zh (by
        rw [← hw4, HNS.out, show IntKind.u64.wrap (ii : Int) = (ii : Int) by rw [IntKind.wrap_u64]; omega, show IntKind.u64.wrap (ic : Int) = (ic : Int) by rw [IntKind.wrap_u64]; omega, show IntKind.u64.wrap (im : Int) = (im : Int) by rw [IntKind.wrap_u64]; omega, show IntKind.u64.wrap (it : Int) = (it : Int) by rw [IntKind.wrap_u64]; omega]
        exact Blk.new W 105 #[.int .u64 (ii : Int), .int .u64 (ic : Int), .int .u64 (im : Int), .int .u64 (it : Int), .int .u64 (FareM.key xs : Int)])
      have HF4 := zh (HFW.out.trans F4)
      have HS4 := zh (HS.out.fresh HF4.out)
      have HFF := zh (HF.out.trans HF4.out)
      clear hw4 F4 HS CELL HKEY r1 r2 r3 r4 s1 s2 s3 s4 HNS
      go_wp2_with fail
      go_loopw [3, 7] (fun v3 v7 wr => ∃ (j : Nat) (Q : List UInt8), j ≤ 5 ∧ v7 = .int .i64 (j : Int) ∧ Q = P ++ (ns.take j).flatMap FieldM.num ∧ Sl wr w.heap.size 5 1 v3 Q.length (Q.map bv) ∧ Blk wr W.heap.size 105 (ns.map fun n : Nat => Value.int .u64 (n : Int)).toArray ∧ Fresh w wr) (fun _ v7 _ => 5 - (RowKit.intOf v7).toNat)
      case atStart => exact ⟨0, P, by omega, rfl, by simp, HS4.out, R5.out, HFF.out⟩
      case round =>
        obtain ⟨j, Q, hj5, rfl, hQ, hsq, hbq, hfq⟩ := hrel
        have HBQ := zh hbq
        have HQQ := zh hQ
        have HSQ := zh hsq
        have HFQ := zh hfq
        have hj0 : (0 : Int) ≤ (j : Int) := by omega
        have hQl : Q.length ≤ 9 + 45 * i + 9 * j := by
          rw [hQ, List.length_append]
          have := take_le HNL.out j
          omega
        clear hQ hsq hbq hfq
        by_cases hjl : j < 5
        · have hjn : j < ns.length := by omega
          have hcell : wr.cell? ⟨W.heap.size, j, none⟩ = some (.int .u64 (ns[j] : Int)) := by
            rw [HBQ.out.cell]
            simp [hjn]
          have HTF := zh (take_flat ns hjn)
          have hnl := HNL.out _ (List.getElem_mem hjn)
          obtain ⟨n, hn⟩ : ∃ n, n = ns[j] := ⟨_, rfl⟩
          rw [← hn] at hcell HTF hnl
          clear hn
          have hnum := num_le hnl
          have hji : (j : Int) < 5 := by omega
          go_wp2_with fail
          refine (refNumber_any n hnl wr).mono ?_
          rintro e w5 ⟨v5, rfl, hs5, f5⟩
          have HS5 := zh hs5
          have HF5 := zh f5
          have HSQ5 := zh (HSQ.out.fresh f5)
          obtain ⟨A5, c5, rfl, hc51, hc52, _⟩ := hs5.shape
          have hszw := (HFQ.out.trans f5).size
          clear hs5 f5 hcell
          go_wp2_with (at_builtin; refine wpList_append_sl _ rfl (.tmp 51) (.tmp 56) _ rfl w.heap.size 5 i0 _ 1 1 Tryz.underlying56 hi hz0 hz1 hz2 rfl (by omega) _ Q.length _ rfl HSQ5.out w5.heap.size A5 (FieldM.num n).length c5 ((FieldM.num n).map bv) rfl (by rw [List.length_map, Nat.mul_one]) HS5.out.rd (bv_one _) (by unfold maxLen; omega) (by omega) hszw ?_; intro v6 w6 hs6 hf6 ha6)
          have HS6 : Hid (Sl w6 w.heap.size 5 1 v6 (Q ++ FieldM.num n).length ((Q ++ FieldM.num n).map bv)) := zh (by rw [List.length_append, List.map_append]; exact hs6)
          have HB6 : Hid (Blk w6 W.heap.size 105 (ns.map fun n : Nat => Value.int .u64 (n : Int)).toArray) := zh ((HBQ.out.frm HF5.out (fun f => f)).frm hf6 (HSQ5.out.apart (HBQ.out.frm HF5.out (fun f => f)) (by decide)))
          have HF6 : Hid (Fresh w w6) := zh ((HFQ.out.trans HF5.out).trans' hf6 (fun k hk hk2 => by have := (HSQ5.out.lt _ hk2).1; omega))
          clear hs6 hf6 ha6
          go_wp2_with fail
          go_roundw
          case rel => exact ⟨j + 1, Q ++ FieldM.num n, by omega, by go_num, by rw [HTF.out, HQQ.out, List.append_assoc], HS6.out, HB6.out, HF6.out⟩
          case measure => simp [RowKit.intOf]; omega
        · obtain rfl : j = 5 := by omega
          have HQ5 : Hid (Q = FieldM.num l.length ++ (l.take (i + 1)).flatMap wenc) := zh (by
            rw [HQQ.out, HP.out, HT.out, show ns.take 5 = ns by rw [← hn5, List.take_length], List.append_assoc])
          go_wp2_with fail
          go_roundw
          case rel => exact ⟨i + 1, Q, by omega, by go_num, HQ5.out, by omega, HSQ.out, HFQ.out⟩
          case measure => simp [RowKit.intOf]; omega
    · obtain rfl : i = l.length := by omega
      have HE : Hid (enc l = P) := zh (by rw [HP.out, List.take_length]; rfl)
      clear hs hf
      go_wp2_with fail
      go_ret
      exact ⟨_, rfl, by rw [HE.out]; exact HS.out, HF.out⟩
theorem conv_u {w : World} {B : Nat} {A : Option Addr} {bs : List UInt8} (c : Nat) (h : Rd w B A (bs.map bv)) {n : Nat} (hn : n = bs.length) : (convert 56 9 (.slice A n c)).run Tryz.prog w = .ok (.string (str bs)) w :=
  conv_bytes _ _ _ Tryz.underlying56 Tryz.underlying5 Tryz.underlying9 c h hn
end
section
open Go.RowKit QueueM ReadM
attribute [local go_sem] run_store_float
def RSt (w : World) (g : Nat) (bs : List UInt8) (s : List UInt8 × Bool) : Prop := ∃ at_, at_ ≤ bs.length ∧ RefAt w g g bs at_ s.2 ∧ (s.2 = false → s.1 = bs.drop at_)
theorem RSt.blk {w : World} {g : Nat} {bs : List UInt8} {s : List UInt8 × Bool} (h : RSt w g bs s) : ∃ cs, Blk w g 104 cs ∧ cs[2]? = some (.bool s.2) := by
  obtain ⟨_, _, ⟨_, _, h, _⟩, _⟩ := h; exact ⟨_, h, rfl⟩
theorem RSt.frm {w w' : World} {g : Nat} {bs : List UInt8} {s : List UInt8 × Bool} {S : Nat → Prop} (h : RSt w g bs s) (F : Frm S w w') (hS : ∀ k, k ≤ g → ¬ S k) : RSt w' g bs s := by
  obtain ⟨at_, h1, h2, h3⟩ := h
  exact ⟨at_, h1, h2.frm F (hS g (Nat.le_refl _)) (fun k hk => hS k (by omega)), h3⟩
theorem RSt.num {w : World} {g : Nat} {bs : List UInt8} {s t : List UInt8 × Bool} (h : RSt w g bs s) (hl : bs.length ≤ 70000) {most x : Nat} (hr : QueueM.rdn most s = (x, t)) :
    Calls Tryz.prog 39 #[.pointer (some ⟨g, 0, none⟩), .int .u64 (most : Int)] w fun e w' => e = .returned (.int .u64 (x : Int)) ∧ RSt w' g bs t ∧ Frm (fun k => k = g) w w' := by
  obtain ⟨at_, h1, h2, h3⟩ := h
  obtain ⟨rest, bad⟩ := s
  refine (rNumber_any w g g bs at_ bad most h1 (by omega) h2).mono ?_
  rintro e w' ⟨he, at', k1, k2, k3, k4⟩
  dsimp only at h3
  cases bad with
  | true =>
    have e0 : QueueM.rdn most (rest, true) = (0, (rest, true)) := rdn_bad _ _
    rw [e0] at hr
    injection hr with r1 r2
    subst r1 r2
    exact ⟨he, ⟨at', k1, k2, fun h => by cases h⟩, k4⟩
  | false =>
    have hd := h3 rfl
    subst hd
    have e1 : ifGood false (numRes most (bs.drop at_)) = numRes most (bs.drop at_) := rfl
    rw [e1] at he k2 k3
    unfold QueueM.rdn at hr
    dsimp only at hr
    rw [if_neg (by simp)] at hr
    cases hn : numRes most (bs.drop at_) with
    | none =>
      rw [hn] at hr he k2 k3
      injection hr with r1 r2
      subst r1 r2
      exact ⟨he, ⟨at', k1, k2, fun h => by cases h⟩, k4⟩
    | some y =>
      rw [hn] at hr he k2 k3
      injection hr with r1 r2
      subst r1 r2
      exact ⟨he, ⟨at', k1, k2, fun _ => k3 _ rfl⟩, k4⟩
theorem RSt.whole {w : World} {g : Nat} {bs : List UInt8} {s : List UInt8 × Bool} (h : RSt w g bs s) :
    Calls Tryz.prog 43 #[.pointer (some ⟨g, 0, none⟩)] w fun e w' => e = .returned (.bool (QueueM.wholeS s)) ∧ Fresh w w' := by
  obtain ⟨at_, h1, h2, h3⟩ := h
  refine (rWhole_any w g g bs at_ s.2 h2).mono ?_
  rintro e w' ⟨he, n, rfl⟩
  refine ⟨?_, (Frm.refl _ w).drewN n⟩
  rw [he]
  obtain ⟨rest, bad⟩ := s
  cases bad with
  | true => rfl
  | false =>
    have hd : rest = bs.drop at_ := h3 rfl
    unfold refWholeB QueueM.wholeS
    dsimp only
    have e : rest = [] ↔ at_ = bs.length := by rw [hd, List.drop_eq_nil_iff]; omega
    by_cases h : at_ = bs.length
    · rw [decide_eq_true h, decide_eq_true (e.2 h)]
    · rw [decide_eq_false h, decide_eq_false (fun h2 => h (e.1 h2))]
structure RInv (w : World) (g c B : Nat) (u : Value) (bs : List UInt8) (l : List Wt) (s : List UInt8 × Bool) (wr : World) : Prop where
  rdr : RSt wr g bs s
  r : IsR wr B c u l
  low : w.heap.size ≤ g ∧ g < B
  good : QueueM.Good l
  words : Words l
  frm : Fresh w wr
theorem RInv.fresh {w wr w' : World} {g c B : Nat} {u : Value} {bs : List UInt8} {l : List Wt} {s : List UInt8 × Bool} (h : RInv w g c B u bs l s wr) (F : Fresh wr w') : RInv w g c B u bs l s w' :=
  ⟨h.rdr.frm F (fun _ _ f => f), h.r.fresh F, h.low, h.good, h.words, h.frm.trans F⟩
theorem RInv.num {w wr : World} {g c B : Nat} {u : Value} {bs : List UInt8} {l : List Wt} {s t : List UInt8 × Bool} (h : RInv w g c B u bs l s wr) (hl : bs.length ≤ 70000) {most x : Nat} (hr : QueueM.rdn most s = (x, t)) :
    Calls Tryz.prog 39 #[.pointer (some ⟨g, 0, none⟩), .int .u64 (most : Int)] wr fun e w' => e = .returned (.int .u64 (x : Int)) ∧ RInv w g c B u bs l t w' ∧ Frm (fun k => k = g) wr w' := by
  refine (h.rdr.num hl hr).mono ?_
  rintro e w' ⟨h1, h2, F⟩
  obtain ⟨cs, hb, _⟩ := h.rdr.blk
  refine ⟨h1, ⟨h2, ⟨h.r.blk.frm F (h.r.blk.apart hb (by decide)), h.r.ge, h.r.sl.frm F (fun k hk e => ?_)⟩, h.low, h.good, h.words, h.frm.trans' F (fun k hk e => by have := h.low; omega)⟩, F⟩
  subst e
  exact h.r.sl.apart hb (by decide) hk
theorem RInv.add {w wr w' : World} {g c B : Nat} {u : Value} {bs : List UInt8} {l : List Wt} {s : List UInt8 × Bool} (h : RInv w g c B u bs l s wr) {x : Wt} (hx : x.score < 18446744073709551616) (st : StepR wr B c (add x l).2 w') : ∃ u', RInv w g c B u' bs (add x l).2 s w' := by
  obtain ⟨u', hr, hf⟩ := st
  have hlow := h.low
  have hge := h.r.ge
  exact ⟨u', h.rdr.frm hf (fun k hk e => by omega), hr, h.low, h.good.add x, h.words.add hx, h.frm.trans' hf (fun k hk e => by omega)⟩
theorem RInv.poke {w wr : World} {g c B : Nat} {u : Value} {bs : List UInt8} {l : List Wt} {s : List UInt8 × Bool} (h : RInv w g c B u bs l s wr) {k : Nat} {cs : Array Value} (hk : Blk wr k 69 cs) (hkg : g < k) (hown : ∀ j, u.ownBlock = some j → j < k) (i : Nat) (y : Value) : RInv w g c B u bs l s (wr.setCell ⟨k, i, none⟩ y) := by
  have F : Frm (fun j => j = k) wr (wr.setCell ⟨k, i, none⟩ y) := (Frm.refl (fun j => j = k) wr).setCell (p := ⟨k, i, none⟩) (fun _ => rfl) y
  have hlow := h.low
  exact ⟨h.rdr.frm F (fun j hj e => by omega), ⟨h.r.blk.frm F (h.r.blk.apart hk (by decide)), h.r.ge, h.r.sl.frm F (fun j hj e => by have := hown j hj; omega)⟩, h.low, h.good, h.words, h.frm.trans' F (fun j hj e => by omega)⟩
def RefDecPost (w : World) (res : Option (List Wt)) (e : Ending) (w' : World) : Prop :=
  match res with
  | none => e = .returned (.tuple #[.pointer none, .int .i64 6]) ∧ Fresh w w'
  | some l => ∃ c u, e = .returned (.tuple #[.pointer (some ⟨c, 0, none⟩), .int .i64 0]) ∧ IsR w' w.heap.size c u l ∧ Fresh w w'
def finR (b : List UInt8) (o : Option (List Wt × (List UInt8 × Bool))) : Option (List Wt) := match o with
  | some x => if QueueM.wholeS x.2 = true ∧ enc x.1 = b then some x.1 else none
  | none => none
theorem decR_fin (b : List UInt8) : decR b = finR b (rdec5 (QueueM.rdn 200 (b, false)).1 [] (QueueM.rdn 200 (b, false)).2) := rfl
theorem finR_no {b : List UInt8} {k : Nat} {l : List Wt} {s : List UInt8 × Bool} {x : Wt} {t : List UInt8 × Bool} (h5 : one5 s = (x, t)) (h : t.2 = true ∨ (add x l).1 ≠ 0) : finR b (rdec5 (k + 1) l s) = none := by
  rw [rdec5, h5, if_pos h]
  rfl
theorem finR_on {b : List UInt8} {k : Nat} {l : List Wt} {s : List UInt8 × Bool} {x : Wt} {t : List UInt8 × Bool} (h5 : one5 s = (x, t)) (h1 : t.2 = false) (h2 : (add x l).1 = 0) : finR b (rdec5 (k + 1) l s) = finR b (rdec5 k (add x l).2 t) := by
  rw [rdec5, h5, if_neg (by rw [h1, h2]; simp)]
theorem rout_no {w w' : World} {bs : List UInt8} (h : decR bs = none) (F : Fresh w w') : RefDecPost w (decR bs) (.returned (.tuple #[.pointer none, .int .i64 6])) w' := by
  rw [h]
  exact ⟨rfl, F⟩
theorem str_inj {a b : List UInt8} (h : a ≠ b) : ((str a).toList == (str b).toList) = false := by
  rw [str_toList, str_toList, beq_eq_false_iff_ne]
  exact h
set_option maxRecDepth 100000 in
theorem refDecode_any (w : World) (A : Option Addr) (cap : Nat) (bs : List UInt8) (hA : Rd w w.heap.size A (bs.map bv)) (hl : bs.length ≤ 70000) (hc : bs.length ≤ cap) (hm : cap ≤ maxLen) :
    Calls Tryz.prog 42 #[.slice A bs.length cap] w fun e w' => RefDecPost w (decR bs) e w' := by
  have HA := zh hA
  have HFIN := zh (decR_fin bs)
  have hn200 := rdn_lt 200 (bs, false)
  obtain ⟨w2, hw2⟩ : ∃ w2, w2 = w.alloc (.cells #[.slice A bs.length cap, .int .i64 0, .bool false] 104) := ⟨_, rfl⟩
  have f2 : Fresh w w2 := by rw [hw2]; exact (Frm.refl _ w).alloc _
  have hr2 : RSt w2 w.heap.size bs (bs, false) := ⟨0, by omega, ⟨A, cap, by rw [hw2]; exact Blk.new w _ _, hA.fresh (Nat.le_refl _) f2, hc, hm, Nat.le_refl _⟩, fun _ => by simp⟩
  have hsz2 : w2.heap.size = w.heap.size + 1 := by rw [hw2]; simp
  obtain ⟨n, s0, h0⟩ : ∃ n s0, QueueM.rdn 200 (bs, false) = (n, s0) := ⟨_, _, rfl⟩
  rw [h0] at HFIN hn200
  dsimp only at HFIN hn200
  have H0 : Hid (Calls Tryz.prog 39 #[.pointer (some ⟨w.heap.size, 0, none⟩), .int .u64 200] w2 fun e w' => e = .returned (.int .u64 (n : Int)) ∧ RSt w' w.heap.size bs s0 ∧ Frm (fun k => k = w.heap.size) w2 w') := zh (hr2.num hl (most := 200) h0)
  have HF2 := zh f2
  clear hA hr2 f2 h0
  go_in
  go_wp2_with fail
  rw [← hw2]
  clear hw2
  refine H0.out.mono ?_
  rintro e w3 ⟨rfl, r3, f3⟩
  obtain ⟨w4, hw4⟩ : ∃ w4, w4 = w3.alloc (.cells #[.slice none 0 0] 63) := ⟨_, rfl⟩
  have f4 : Fresh w3 w4 := by rw [hw4]; exact (Frm.refl _ w3).alloc _
  have hsz3 := f3.size
  have HV4 : Hid (RInv w w.heap.size w3.heap.size w3.heap.size (.slice none 0 0) bs [] s0 w4) := zh
    ⟨r3.frm f4 (fun _ _ f => f), ⟨by rw [hw4]; exact Blk.new w3 _ _, Nat.le_refl _, Sl.nil _ _ _ _⟩, ⟨Nat.le_refl _, by omega⟩, QueueM.Good.nil, (fun x hx => by cases hx), (HF2.out.trans' f3 (fun k hk e => by omega)).trans f4⟩
  clear r3 f3 f4
  go_wp2_with fail
  rw [← hw4]
  clear hw4
  obtain ⟨g, hg⟩ : ∃ g, w.heap.size = g := ⟨_, rfl⟩
  have HGW := zh hg
  rw [hg] at HV4 ⊢
  generalize w3.heap.size = c at HV4
  have HB : ∃ B, Hid (RInv w g c B (.slice none 0 0) bs [] s0 w4) := ⟨c, HV4⟩
  clear HV4 hg hsz2 hsz3
  obtain ⟨B, HV4⟩ := HB
  go_loopw [7] (fun v7 wr => ∃ (i : Nat) (u : Value) (l : List Wt) (s : List UInt8 × Bool), i ≤ n ∧ v7 = .int .u64 (i : Int) ∧ RInv w g c B u bs l s wr ∧ decR bs = finR bs (rdec5 (n - i) l s)) (fun v7 _ => n - (RowKit.intOf v7).toNat)
  case atStart => exact ⟨0, _, _, _, by omega, rfl, HV4.out, by rw [Nat.sub_zero]; exact HFIN.out⟩
  case round =>
    clear HV4 H0 HFIN
    obtain ⟨i, u, l, s, hin, rfl, hv, hfin⟩ := hrel
    have HV := zh hv
    have HFIN := zh hfin
    have hi0 : (0 : Int) ≤ (i : Int) := by omega
    clear hfin
    by_cases hlt : i < n
    · obtain ⟨k, hk⟩ : ∃ k, n - i = k + 1 := ⟨n - i - 1, by omega⟩
      have hki : n - (i + 1) = k := by omega
      rw [hk] at HFIN
      obtain ⟨x1, s1, h1⟩ : ∃ x1 s1, QueueM.rdn 28629151 s = (x1, s1) := ⟨_, _, rfl⟩
      obtain ⟨x2, s2, h2⟩ : ∃ x2 s2, QueueM.rdn 7 s1 = (x2, s2) := ⟨_, _, rfl⟩
      obtain ⟨x3, s3, h3⟩ : ∃ x3 s3, QueueM.rdn 600 s2 = (x3, s3) := ⟨_, _, rfl⟩
      obtain ⟨x4, s4, h4⟩ : ∃ x4 s4, QueueM.rdn 1099511627776 s3 = (x4, s4) := ⟨_, _, rfl⟩
      obtain ⟨x5, s5, h5⟩ : ∃ x5 s5, QueueM.rdn 18446744073709551615 s4 = (x5, s5) := ⟨_, _, rfl⟩
      have H5 : Hid (one5 s = (⟨(x1 : Int), (x2 : Int), (x3 : Int), (x4 : Int), FareM.of x5⟩, s5)) := zh (by simp [one5, h1, h2, h3, h4, h5])
      have b1 : x1 ≤ 28629151 := by have := rdn_lt 28629151 s; rw [h1] at this; exact this
      have b2 : x2 ≤ 7 := by have := rdn_lt 7 s1; rw [h2] at this; exact this
      have b3 : x3 ≤ 600 := by have := rdn_lt 600 s2; rw [h3] at this; exact this
      have b4 : x4 ≤ 1099511627776 := by have := rdn_lt 1099511627776 s3; rw [h4] at this; exact this
      have hx5 : x5 < 18446744073709551616 := by have := rdn_lt 18446744073709551615 s4; rw [h5] at this; dsimp only at this; omega
      have HSC := zh (FareM.of_lt hx5)
      have HOF := zh (fun w => refOf_any x5 hx5 w)
      have N1 : Hid (Calls Tryz.prog 39 #[.pointer (some ⟨g, 0, none⟩), .int .u64 28629151] wr fun e w' => e = .returned (.int .u64 (x1 : Int)) ∧ RInv w g c B u bs l s1 w' ∧ Frm (fun k => k = g) wr w') := zh (HV.out.num hl (most := 28629151) h1)
      have N2 : Hid (∀ wq, RInv w g c B u bs l s1 wq → Calls Tryz.prog 39 #[.pointer (some ⟨g, 0, none⟩), .int .u64 7] wq fun e w' => e = .returned (.int .u64 (x2 : Int)) ∧ RInv w g c B u bs l s2 w' ∧ Frm (fun k => k = g) wq w') := zh fun wq h => h.num hl (most := 7) h2
      have N3 : Hid (∀ wq, RInv w g c B u bs l s2 wq → Calls Tryz.prog 39 #[.pointer (some ⟨g, 0, none⟩), .int .u64 600] wq fun e w' => e = .returned (.int .u64 (x3 : Int)) ∧ RInv w g c B u bs l s3 w' ∧ Frm (fun k => k = g) wq w') := zh fun wq h => h.num hl (most := 600) h3
      have N4 : Hid (∀ wq, RInv w g c B u bs l s3 wq → Calls Tryz.prog 39 #[.pointer (some ⟨g, 0, none⟩), .int .u64 1099511627776] wq fun e w' => e = .returned (.int .u64 (x4 : Int)) ∧ RInv w g c B u bs l s4 w' ∧ Frm (fun k => k = g) wq w') := zh fun wq h => h.num hl (most := 1099511627776) h4
      have N5 : Hid (∀ wq, RInv w g c B u bs l s4 wq → Calls Tryz.prog 39 #[.pointer (some ⟨g, 0, none⟩), .int .u64 18446744073709551615] wq fun e w' => e = .returned (.int .u64 (x5 : Int)) ∧ RInv w g c B u bs l s5 w' ∧ Frm (fun k => k = g) wq w') := zh fun wq h => h.num hl (most := 18446744073709551615) h5
      have hlti : (i : Int) < (n : Int) := by omega
      have hw1 : IntKind.i64.wrap (x1 : Int) = (x1 : Int) := IntWalk.i64_in _ (by omega)
      have hw2 : IntKind.i64.wrap (x2 : Int) = (x2 : Int) := IntWalk.i64_in _ (by omega)
      have hw3 : IntKind.i64.wrap (x3 : Int) = (x3 : Int) := IntWalk.i64_in _ (by omega)
      have hw4 : IntKind.i64.wrap (x4 : Int) = (x4 : Int) := IntWalk.i64_in _ (by omega)
      clear h1 h2 h3 h4 h5 hx5 hv hk b1 b2 b3 b4
      go_wp2_with fail
      refine N1.out.mono ?_
      rintro e w5 ⟨rfl, v5, _⟩
      have HV5 := zh v5
      clear v5
      go_wp2_with fail
      refine (N2.out w5 HV5.out).mono ?_
      rintro e w6 ⟨rfl, v6, _⟩
      have HV6 := zh v6
      clear v6
      go_wp2_with fail
      refine (N3.out w6 HV6.out).mono ?_
      rintro e w7 ⟨rfl, v7, _⟩
      have HV7 := zh v7
      clear v7
      go_wp2_with fail
      refine (N4.out w7 HV7.out).mono ?_
      rintro e w8 ⟨rfl, v8, _⟩
      obtain ⟨w9, hw9⟩ : ∃ w9, w9 = w8.alloc (.cells #[.int .i64 (x1 : Int), .int .i64 (x2 : Int), .int .i64 (x3 : Int), .int .i64 (x4 : Int), .float .f64 0] 69) := ⟨_, rfl⟩
      have HV9 : Hid (RInv w g c B u bs l s4 w9) := zh (v8.fresh (by rw [hw9]; exact (Frm.refl _ w8).alloc _))
      have HB9 : Hid (Blk w9 w8.heap.size 69 (wcells ⟨(x1 : Int), (x2 : Int), (x3 : Int), (x4 : Int), 0⟩).toArray) := zh (by rw [hw9]; exact Blk.new w8 _ _)
      have hgk : g < w8.heap.size := by obtain ⟨cs, hb, _⟩ := v8.rdr.blk; exact hb.lt
      have HOWN : Hid (∀ j, u.ownBlock = some j → j < w8.heap.size) := zh fun j hj => (v8.r.sl.lt j hj).2
      clear v8
      go_wp2_with fail
      rw [← hw9]
      clear hw9
      generalize w8.heap.size = bx at HB9 hgk HOWN
      refine (N5.out w9 HV9.out).mono ?_
      rintro e w10 ⟨rfl, v10, f10⟩
      obtain ⟨cs9, hb9, _⟩ := HV9.out.rdr.blk
      have k10 : Blk w10 bx 69 (wcells ⟨(x1 : Int), (x2 : Int), (x3 : Int), (x4 : Int), 0⟩).toArray := HB9.out.frm f10 (HB9.out.apart hb9 (by decide))
      have HV10 := zh v10
      have HB10 := zh k10
      have e4 : w10.cell? ⟨bx, 4, none⟩ = some (.float .f64 0) := k10.cell 4
      have z4 := k10.frozen 4
      clear v10 f10 hb9 k10
      go_wp2_with fail
      refine (HOF.out w10).mono ?_
      rintro e wz ⟨rfl, hwz⟩
      rw [hwz]
      clear hwz wz
      have HV11 := zh (HV10.out.poke HB10.out hgk HOWN.out 4 (.float .f64 (FareM.of x5)))
      have HB11 : Hid (Blk (w10.setCell ⟨bx, 4, none⟩ (.float .f64 (FareM.of x5))) bx 69 (wcells ⟨(x1 : Int), (x2 : Int), (x3 : Int), (x4 : Int), FareM.of x5⟩).toArray) := zh (HB10.out.set 4 (.float .f64 (FareM.of x5)))
      generalize FareM.of x5 = x5f at H5 HSC HV11 HB11 ⊢
      obtain ⟨d0, d1, d2, d3, d4⟩ := five_blk HB11.out
      dsimp only at d0 d1 d2 d3 d4
      obtain ⟨W, hW⟩ : ∃ W, W = w10.setCell ⟨bx, 4, none⟩ (.float .f64 x5f) := ⟨_, rfl⟩
      have HADD : Hid (Calls Tryz.prog 82 #[.pointer (some ⟨c, 0, none⟩), .agg #[.int .i64 (x1 : Int), .int .i64 (x2 : Int), .int .i64 (x3 : Int), .int .i64 (x4 : Int), .float .f64 x5f]] W fun e w' => AddPostR W B c ⟨(x1 : Int), (x2 : Int), (x3 : Int), (x4 : Int), x5f⟩ l e w') := zh (by rw [hW]; exact refAdd_any _ B c u l ⟨(x1 : Int), (x2 : Int), (x3 : Int), (x4 : Int), x5f⟩ HV11.out.r HV11.out.good)
      rw [← hW] at HV11
      clear HV10 HB10 HV9 HB9 HV7 HV6 HV5 N1 N2 N3 N4 N5 HOF HV HB11
      go_wp2_with fail
      rw [← hW]
      clear hW d0 d1 d2 d3 d4 e4 z4
      refine HADD.out.mono ?_
      rintro e w12 ⟨rfl, st⟩
      obtain ⟨u', hv12⟩ := HV11.out.add (x := ⟨(x1 : Int), (x2 : Int), (x3 : Int), (x4 : Int), x5f⟩) HSC.out st
      have HV12 := zh hv12
      obtain ⟨cs, hb, hcs⟩ := hv12.rdr.blk
      have ha : w12.cell? ⟨g, 2, none⟩ = some (.bool s5.2) := by rw [hb.cell, hcs]
      obtain ⟨cc, hcc⟩ : ∃ cc, cc = (add ⟨(x1 : Int), (x2 : Int), (x3 : Int), (x4 : Int), x5f⟩ l).1 := ⟨_, rfl⟩
      have HCC := zh hcc
      rw [← hcc]
      have HFF := zh hv12.frm
      clear st hv12 hb hcs hcc HADD HV11
      rcases Bool.eq_false_or_eq_true s5.2 with hbad | hbad
      · have HNO : Hid (decR bs = none) := zh (by rw [HFIN.out]; exact finR_no H5.out (.inl hbad))
        rw [hbad] at ha
        clear hbad
        go_wp2_with fail
        exact bodyPost_ret (v := .tuple #[.pointer none, .int .i64 6]) (by simp [results, Tryz.results42, go_sem]) rfl (rout_no HNO.out HFF.out)
      · rw [hbad] at ha
        have HBAD := zh hbad
        clear hbad
        by_cases hcz : cc = 0
        · subst hcz
          have HNX : Hid (decR bs = finR bs (rdec5 (n - (i + 1)) (add ⟨(x1 : Int), (x2 : Int), (x3 : Int), (x4 : Int), x5f⟩ l).2 s5)) := zh (by rw [hki, ← finR_on H5.out HBAD.out HCC.out.symm, HFIN.out])
          go_wp2_with fail
          go_roundw
          case rel => exact ⟨i + 1, u', _, s5, by omega, by go_num, HV12.out, HNX.out⟩
          case measure => simp [RowKit.intOf]; omega
        · have HNO : Hid (decR bs = none) := zh (by rw [HFIN.out]; exact finR_no H5.out (.inr (by rw [← HCC.out]; exact hcz)))
          have hcb : (cc == 0) = false := by rw [beq_eq_false_iff_ne]; exact hcz
          have hcb2 : (cc != 0) = true := by rw [bne_iff_ne]; exact hcz
          go_wp2_with fail
          exact bodyPost_ret (v := .tuple #[.pointer none, .int .i64 6]) (by simp [results, Tryz.results42, go_sem]) rfl (rout_no HNO.out HFF.out)
    · obtain rfl : i = n := by omega
      rw [Nat.sub_self] at HFIN
      have HE : Hid (decR bs = if QueueM.wholeS s = true ∧ enc l = bs then some l else none) := zh (by rw [HFIN.out]; rfl)
      have HWH := zh hv.rdr.whole
      have HENC : Hid (∀ wq, Fresh wr wq → Calls Tryz.prog 83 #[.pointer (some ⟨c, 0, none⟩)] wq fun e w' => EncPost wq l e w') := zh fun wq F => refEncode_any wq B c u l (hv.r.fresh F) hv.good hv.words
      have HFR := zh hv.frm
      generalize QueueM.wholeS s = wb at HE HWH
      clear hv
      cases wb with
      | false =>
        have HNO : Hid (decR bs = none) := zh (by rw [HE.out]; simp)
        go_wp2_with fail
        refine HWH.out.mono ?_
        rintro e w5 ⟨rfl, f5⟩
        have HF5 := zh (HFR.out.trans f5)
        clear f5
        go_wp2_with fail
        go_quiet (fail)
        go_wp2_with fail
        exact bodyPost_ret (v := .tuple #[.pointer none, .int .i64 6]) (by simp [results, Tryz.results42, go_sem]) rfl (rout_no HNO.out (HF5.out.drewN _))
      | true =>
        go_wp2_with fail
        refine HWH.out.mono ?_
        rintro e w5 ⟨rfl, f5⟩
        have HF5 := zh (HFR.out.trans f5)
        have HEC : Hid (Calls Tryz.prog 83 #[.pointer (some ⟨c, 0, none⟩)] w5.drew fun e w' => EncPost w5.drew l e w') := zh (HENC.out w5.drew f5.drew)
        have HRB : Hid (∀ w', Fresh w w' → (convert 56 9 (.slice A bs.length cap)).run Tryz.prog w' = .ok (.string (str bs)) w') := zh fun w' F => conv_u cap ((HA.out.fresh (Nat.le_refl _) F).more F.size) rfl
        have q5 := HRB.out w5.drew HF5.out.drew
        have HOUT : Hid (∀ w', Fresh wr w' → RInv w g c B u bs l s w') := zh fun w' F => HV.out.fresh F
        have HF50 := zh f5
        unfold EncPost at HEC
        clear f5 HENC HWH
        by_cases he : enc l = bs
        · have HYES : Hid (decR bs = some l) := zh (by rw [HE.out]; simp [he])
          rw [he] at HEC
          clear he
          go_wp2_with fail
          go_region_with
            ((first
              | (go_at_call 83; refine (HEC.out).mono ?_; rintro e w6 ⟨v6, rfl, hs6, f6⟩; obtain ⟨A6, c6, rfl, _⟩ := hs6.shape; have q51 := HRB.out w6 (HF5.out.drew.trans f6); have q6 : (convert 56 9 (.slice A6 bs.length c6)).run Tryz.prog w6 = .ok (.string (str bs)) w6 := conv_u c6 hs6.rd rfl; have HF6 := zh (HF50.out.drew.trans f6); clear hs6 f6)))
          all_goals
            go_wp2_with fail
            refine bodyPost_ret (v := .tuple #[.pointer (some ⟨c, 0, none⟩), .int .i64 0]) (by simp [results, Tryz.results42, go_sem, Act.put]) rfl ?_
            rw [HYES.out]
            have hv6 := HOUT.out _ HF6.out
            exact ⟨c, u, rfl, hv6.r.less (by have := hv6.low; omega), hv6.frm⟩
        · have HNO : Hid (decR bs = none) := zh (by rw [HE.out, if_neg (fun h => he h.2)])
          have hne : ((str (enc l)).toList == (str bs).toList) = false := str_inj he
          generalize enc l = el at HEC hne
          clear he
          go_wp2_with fail
          go_region_with
            ((first
              | (go_at_call 83; refine (HEC.out).mono ?_; rintro e w6 ⟨v6, rfl, hs6, f6⟩; obtain ⟨A6, c6, rfl, _⟩ := hs6.shape; have q51 := HRB.out w6 (HF5.out.drew.trans f6); have q6 : (convert 56 9 (.slice A6 el.length c6)).run Tryz.prog w6 = .ok (.string (str el)) w6 := conv_u c6 hs6.rd rfl; have HF6 := zh (HF50.out.drew.trans f6); clear hs6 f6)))
          all_goals
            go_wp2_with fail
            exact bodyPost_ret (v := .tuple #[.pointer none, .int .i64 6]) (by simp [results, Tryz.results42, go_sem, Act.put]) rfl (rout_no HNO.out (HOUT.out _ HF6.out).frm)
end
end Go.Proofs.YtbeaoddjomdlcaaGreatDoor

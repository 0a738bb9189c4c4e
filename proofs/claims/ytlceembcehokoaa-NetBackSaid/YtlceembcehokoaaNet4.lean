/- A beat decoded. -/
import Derived.Test.YtlceembcehokoaaNet3
import Derived.Laws.EntriesVeiled
import Derived.Laws.ResultCell
namespace Go.Proofs.Ytlceembcehokoaa
open Go.RowKit ReadM
set_option maxRecDepth 100000

theorem beat_len : beatB.length = 16 := by rw [beatB_eq]; rfl
theorem scan_beat : Rc.scan (Rc.rec beatB) = ([beatB], 24) := by
  have h := Rc.scan_rec beatB [] (by rw [beat_len]; omega)
  rw [List.append_nil] at h
  rw [h, beat_len]
  rfl
theorem lists_one {w : World} {B : Nat} {v : Value} {x : List UInt8} (h : Rc.Lists w B v [x]) : ∃ b o cap A c, v = .slice (some ⟨b, o, none⟩) 1 cap ∧ w.cell? ⟨b, o, none⟩ = some (.slice A x.length c) ∧ x.length ≤ c ∧ c ≤ maxLen ∧ Rd w w.heap.size A (x.map bv) := by
  obtain ⟨bl, h1, h2, h3⟩ := h
  match bl, h3 with
  | [y], h3 =>
    obtain ⟨A, c, t⟩ := y
    simp only [List.map_cons, List.map_nil, List.cons.injEq, and_true] at h3
    subst h3
    obtain ⟨g, o, cap, rfl, _⟩ := h1.head (by simp)
    have hc := h1.cell (j := 0) (by simp)
    have hs := h2 (A, c, t) (by simp)
    obtain ⟨A', c', he, hle, hm, _⟩ := hs.shape
    injection he with e1 e2 e3
    subst e1 e3
    exact ⟨g, o, cap, A, c, rfl, by simpa [Rc.bsv] using hc, hle, hm, hs.rd⟩
set_option maxHeartbeats 16000000 in
theorem decodeBeat_any (w : World) (A : Option Addr) (cap : Nat) (hA : Rd w w.heap.size A ((Rc.rec beatB).map bv)) (hc : 24 ≤ cap) (hm : cap ≤ maxLen) :
    Calls Try.prog 14 #[.slice A 24 cap] w fun e w' => e = .returned (.tuple #[.agg beat, .int .i64 0]) ∧ Fresh w w' := by
  have HA := Lib.hid hA
  have hl24 : (Rc.rec beatB).length = 24 := by rw [Rc.rec_len, beat_len]
  have hmf : ∀ (fn : Fn) (first cap : Array Value) (w : World), (Instr.makeFunc fn first cap).run Try.prog w = .ok (.func fn first cap) w := fun _ _ _ _ => rfl
  obtain ⟨W0, hW0⟩ : ∃ W0, w.alloc (.cells msg0 30) = W0 := ⟨_, rfl⟩
  have HF0 : Hid (Fresh w W0) := Lib.hid (by rw [← hW0]; exact ((Frm.refl _ w).alloc _))
  have BX : Hid (Blk W0 w.heap.size 30 msg0) := Lib.hid (by rw [← hW0]; exact (Blk.new w _ msg0))
  unfold msg0 at hW0
  clear hA
  go_enter Try.func14, Try.ntmps14
  go_wp2_with fail
  clear hW0
  have HSC := Rc.scan_any W0 A cap (Rc.rec beatB) ((HA.out.fresh (Nat.le_refl _) HF0.out).more HF0.out.size) (by omega) (by omega) (by unfold maxLen at hm; omega)
  unfold Rc.ScanPost at HSC
  rw [hl24, scan_beat] at HSC
  refine HSC.mono ?_
  rintro e w1 ⟨v1, rfl, hL, f1⟩
  obtain ⟨bl, ol, capl, A1, c1, rfl, k1, hle1, hm1, hr1⟩ := lists_one hL
  have HR1 := Lib.hid hr1
  have HF1 := Lib.hid (HF0.out.trans f1)
  have BX1 := Lib.hid (BX.out.frm f1 (fun f => f))
  clear hL hr1 f1 HSC BX HF0
  dsimp only
  go_wp2_with fail
  refine (rdr_new w1 w1.heap.size A1 c1 beatB HR1.out (Nat.le_refl _) (by rw [beat_len]; omega) hle1 hm1).mono ?_
  rintro e w2 ⟨g, rfl, hr2, f2, hg2⟩
  obtain ⟨p6, hp6⟩ : ∃ p6, w2.heap.size = p6 := ⟨_, rfl⟩
  obtain ⟨W4, hW4⟩ : ∃ W4, (w2.alloc (.cells #[.pointer (some ⟨g, 0, none⟩)] 83)).alloc (.cells #[.func (.func 52) #[] #[.pointer (some ⟨p6, 0, none⟩)]] 86) = W4 := ⟨_, rfl⟩
  have b6 : Blk W4 p6 83 #[.pointer (some ⟨g, 0, none⟩)] := by
    rw [← hW4, ← hp6]
    exact (Blk.new w2 _ _).alloc _
  have b7 : Blk W4 (p6 + 1) 86 #[.func (.func 52) #[] #[.pointer (some ⟨p6, 0, none⟩)]] := by
    rw [← hW4, ← hp6]
    have := Blk.new (w2.alloc (.cells #[.pointer (some ⟨g, 0, none⟩)] 83)) 86 #[.func (.func 52) #[] #[.pointer (some ⟨w2.heap.size, 0, none⟩)]]
    rwa [World.size_alloc] at this
  have f4 : Fresh w2 W4 := by
    rw [← hW4]
    exact ((Frm.refl _ w2).alloc _).alloc _
  have hgr : w.heap.size < g := by have := BX1.out.lt; omega
  have HD4 : Hid (Dec w p6 (p6 + 1) g beatB W4) := Lib.hid ⟨b6, b7, (hr2.frm f4 (fun f => f) (fun _ _ f => f)), hgr, BX1.out.frm (f2.trans f4) (fun f => f), (HF1.out.trans f2).trans f4⟩
  have hg4 : g < W4.heap.size := by obtain ⟨_, h⟩ := HD4.out.rdr.blk; exact h.lt
  clear hr2 f2 f4 b6 b7 BX1
  go_wp2_with fail
  clear hW4 hp6
  have HDa : Hid (Dec w p6 (p6 + 1) g beatB W4.drew) := Lib.hid (HD4.out.fresh ((Frm.refl _ W4).drew))
  have KS : Hid (∀ w' bs, Dec w p6 (p6 + 1) g bs w' → w'.cell? ⟨p6 + 1, 0, none⟩ = some (.func (.func 52) #[] #[.pointer (some ⟨p6, 0, none⟩)])) := Lib.hid fun w' bs h => h.c7.cell 0
  clear HD4
  refine Code.wp_mono (Q := fun e a w' => e = .normal ∧ ∃ q, a = ⟨#[.slice A 24 cap, undef, .pointer (some ⟨w.heap.size, 0, none⟩), .int .i64 0, .slice (some ⟨bl, ol, none⟩) 1 capl, .int .i64 24, .pointer (some ⟨p6, 0, none⟩), .pointer (some ⟨p6 + 1, 0, none⟩), .func (.func 54) #[] #[.pointer (some ⟨p6 + 1, 0, none⟩)], .func (.func 55) #[] #[.pointer (some ⟨p6, 0, none⟩)], .pointer (some ⟨q, 0, none⟩), undef, undef, undef, .tuple #[.slice (some ⟨bl, ol, none⟩) 1 capl, .int .i64 24], .slice A 24 cap, .tuple #[.slice (some ⟨bl, ol, none⟩) 1 capl, .int .i64 24], .slice (some ⟨bl, ol, none⟩) 1 capl, .int .i64 24, .slice (some ⟨bl, ol, none⟩) 1 capl, .int .i64 1, .bool false, .bool false, .int .i64 24, .slice A 24 cap, .int .i64 24, .bool false, .bool false, undef, .slice (some ⟨bl, ol, none⟩) 1 capl, .pointer (some ⟨bl, ol, none⟩), .slice A1 beatB.length c1, .pointer (some ⟨g, 0, none⟩), .func (.func 52) #[] #[.pointer (some ⟨p6, 0, none⟩)], .func (.func 54) #[] #[.pointer (some ⟨p6 + 1, 0, none⟩)], .func (.func 55) #[] #[.pointer (some ⟨p6, 0, none⟩)], .func (.func 52) #[] #[.pointer (some ⟨p6, 0, none⟩)], .int .i64 7, .func (.func 52) #[] #[.pointer (some ⟨p6, 0, none⟩)], .int .i64 1, .func (.func 52) #[] #[.pointer (some ⟨p6, 0, none⟩)], .int .i64 2, .func (.func 54) #[] #[.pointer (some ⟨p6 + 1, 0, none⟩)], .int .i64 3, .agg #[.int .i64 7, .int .i64 1, .int .i64 2, .int .i64 3, .int .i64 0, .int .i64 0, .bool false, .int .i64 0, .int .i64 0, .int .i64 0, .slice none 0 0, .int .i64 0, .int .i64 0, .slice none 0 0, .slice none 0 0, .slice none 0 0], undef, undef, undef, undef, undef, undef, undef, undef, undef, undef, undef, undef, undef, undef, undef, undef, undef, undef, undef, undef, undef, undef, undef, undef, undef, undef, undef, undef, undef, undef, undef, undef, undef, undef, undef, undef, undef, undef, undef, undef, undef, undef, undef, undef, undef, undef, undef, undef, undef, undef, undef, undef, undef, undef, undef, undef, undef, undef, undef, undef, undef, undef, undef, undef, undef], []⟩ ∧ Blk w' q 30 beat ∧ Dec w p6 (p6 + 1) g [0, 0, 0, 0, 0, 0, 0, 0] w' ∧ g < q) ?_ ?_
  rotate_left 1
  · refine wp_region_held_drew (S := fun w' => w'.cell? ⟨p6 + 1, 0, none⟩ = some (.func (.func 52) #[] #[.pointer (some ⟨p6, 0, none⟩)])) (by kernel_rfl) (KS.out _ _ HDa.out) (fun hHeld => ?_)
    refine wpAnyH_take (i := 0) (v := ?_) (op_here) (by kernel_rfl) (by kernel_rfl) (by kernel_rfl) (fun _ _ _ h => by cases h.1) (Or.inl ⟨by rfl, ?_⟩) (by assumption) ?_
    rotate_left 1
    (intro w hSw; (try dsimp only at hSw); go_simp; try with_reducible rfl)
    try simp only [Act.put, List.setIfInBounds_toArray, List.set_cons_zero, List.set_cons_succ]
    refine wpAnyH_take (i := 2) (v := ?_) (op_later (op_later (op_here))) (by kernel_rfl) (by kernel_rfl) (by kernel_rfl) (fun _ _ _ h => by cases h.1) (Or.inl ⟨by rfl, ?_⟩) (by assumption) ?_
    rotate_left 1
    (intro w hSw; (try dsimp only at hSw); go_simp; try with_reducible rfl)
    try simp only [Act.put, List.setIfInBounds_toArray, List.set_cons_zero, List.set_cons_succ]
    refine wpAnyH_take (i := 4) (v := ?_) (op_later (op_later (op_later (op_later (op_here))))) (by kernel_rfl) (by kernel_rfl) (by kernel_rfl) (fun _ _ _ h => by cases h.1) (Or.inl ⟨by rfl, ?_⟩) (by assumption) ?_
    rotate_left 1
    (intro w hSw; (try dsimp only at hSw); go_simp; try with_reducible rfl)
    try simp only [Act.put, List.setIfInBounds_toArray, List.set_cons_zero, List.set_cons_succ]
    refine wpAnyH_take (i := 6) (v := ?_) (op_later (op_later (op_later (op_later (op_later (op_later (op_here))))))) (by kernel_rfl) (by kernel_rfl) (by kernel_rfl) (fun _ _ _ h => by cases h.1) (Or.inl ⟨by rfl, ?_⟩) (by assumption) ?_
    rotate_left 1
    (intro w hSw; (try dsimp only at hSw); go_simp; try with_reducible rfl)
    try simp only [Act.put, List.setIfInBounds_toArray, List.set_cons_zero, List.set_cons_succ]
    refine wpAnyH_ready (rs := [1, 9]) (by kernel_rfl) (by simp) (AllReadyH.cons (op_later (op_here)) (fun K hK => ?_) (AllReadyH.cons (op_later (op_later (op_later (op_later (op_later (op_later (op_later (op_later (op_later (op_here)))))))))) (fun K hK => ?_) AllReadyH.nil))
    · go_simp
      refine (Dec.number (p6 := p6) (p7 := p6 + 1) (bs := beatB) HDa.out 7 10 [1, 1, 1, 2, 1, 3, 0, 0, 0, 0, 0, 0, 0, 0] (by omega) (by omega) (by decide +kernel)).mono ?_
      rintro e wb ⟨rfl, hb, fb⟩
      have HDb := Lib.hid hb
      clear hb fb HDa
      refine hK.out _ _ (KS.out _ _ HDb.out) (fun hHeld => ?_)
      clear hK K
      try simp only [Act.put, List.setIfInBounds_toArray, List.set_cons_zero, List.set_cons_succ]
      refine wpAnyH_ready (rs := [3, 9]) (by kernel_rfl) (by simp) (AllReadyH.cons (op_later (op_later (op_later (op_here)))) (fun K hK => ?_) (AllReadyH.cons (op_later (op_later (op_later (op_later (op_later (op_later (op_later (op_later (op_later (op_here)))))))))) (fun K hK => ?_) AllReadyH.nil))
      · go_simp
        refine (Dec.number (p6 := p6) (p7 := p6 + 1) (bs := [1, 1, 1, 2, 1, 3, 0, 0, 0, 0, 0, 0, 0, 0]) HDb.out 1 15 [1, 2, 1, 3, 0, 0, 0, 0, 0, 0, 0, 0] (by omega) (by omega) (by decide +kernel)).mono ?_
        rintro e wc ⟨rfl, hc, fc⟩
        have HDc := Lib.hid hc
        clear hc fc HDb
        refine hK.out _ _ (KS.out _ _ HDc.out) (fun hHeld => ?_)
        clear hK K
        try simp only [Act.put, List.setIfInBounds_toArray, List.set_cons_zero, List.set_cons_succ]
        refine wpAnyH_ready (rs := [5, 9]) (by kernel_rfl) (by simp) (AllReadyH.cons (op_later (op_later (op_later (op_later (op_later (op_here)))))) (fun K hK => ?_) (AllReadyH.cons (op_later (op_later (op_later (op_later (op_later (op_later (op_later (op_later (op_later (op_here)))))))))) (fun K hK => ?_) AllReadyH.nil))
        · go_simp
          refine (Dec.number (p6 := p6) (p7 := p6 + 1) (bs := [1, 2, 1, 3, 0, 0, 0, 0, 0, 0, 0, 0]) HDc.out 2 15 [1, 3, 0, 0, 0, 0, 0, 0, 0, 0] (by omega) (by omega) (by decide +kernel)).mono ?_
          rintro e wd ⟨rfl, hd, fd⟩
          have HDd := Lib.hid hd
          clear hd fd HDc
          refine hK.out _ _ (KS.out _ _ HDd.out) (fun hHeld => ?_)
          clear hK K
          try simp only [Act.put, List.setIfInBounds_toArray, List.set_cons_zero, List.set_cons_succ]
          refine wpAnyH_ready (rs := [7, 9]) (by kernel_rfl) (by simp) (AllReadyH.cons (op_later (op_later (op_later (op_later (op_later (op_later (op_later (op_here)))))))) (fun K hK => ?_) (AllReadyH.cons (op_later (op_later (op_later (op_later (op_later (op_later (op_later (op_later (op_later (op_here)))))))))) (fun K hK => ?_) AllReadyH.nil))
          · go_simp
            refine (Dec.index (p6 := p6) (p7 := p6 + 1) (bs := [1, 3, 0, 0, 0, 0, 0, 0, 0, 0]) HDd.out 3 [0, 0, 0, 0, 0, 0, 0, 0] (by omega) (by decide +kernel)).mono ?_
            rintro e we ⟨rfl, he, fe⟩
            have HDe := Lib.hid he
            clear he fe HDd
            refine hK.out _ _ (KS.out _ _ HDe.out) (fun hHeld => ?_)
            clear hK K
            try simp only [Act.put, List.setIfInBounds_toArray, List.set_cons_zero, List.set_cons_succ]
            refine wpAnyH_take (i := 8) (v := ?_) (op_later (op_later (op_later (op_later (op_later (op_later (op_later (op_later (op_here))))))))) (by kernel_rfl) (by kernel_rfl) (by kernel_rfl) (fun _ _ _ h => by cases h.1) (Or.inl ⟨by rfl, ?_⟩) (by assumption) ?_
            rotate_left 1
            (intro w hSw; (try dsimp only at hSw); go_simp; try with_reducible rfl)
            try simp only [Act.put, List.setIfInBounds_toArray, List.set_cons_zero, List.set_cons_succ]
            refine wpAnyH_ready (rs := [9]) (by kernel_rfl) (by simp) (AllReadyH.cons (op_later (op_later (op_later (op_later (op_later (op_later (op_later (op_later (op_later (op_here)))))))))) (fun K hK => ?_) AllReadyH.nil)
            go_simp
            have HDn := Lib.hid (HDe.out.fresh ((Frm.refl _ (we)).alloc (.cells msg0 30)))
            have HQ : Hid (MBox g (we).heap.size ((we).alloc (.cells msg0 30))) := Lib.hid ⟨HDe.out.glt, Blk.new _ _ msg0⟩
            clear HDe
            have HDe := HDn
            clear HDn
            refine hK.out _ _ (KS.out _ _ HDe.out) (fun hHeld => ?_)
            clear hK K
            try simp only [Act.put, List.setIfInBounds_toArray, List.set_cons_zero, List.set_cons_succ]
            refine wpAnyH_ready (rs := [10]) (by kernel_rfl) (by simp) (AllReadyH.cons (op_later (op_later (op_later (op_later (op_later (op_later (op_later (op_later (op_later (op_later (op_here))))))))))) (fun K hK => ?_) AllReadyH.nil)
            rw [if_pos (by rfl)]
            refine wp_store_mid _ _ _ rfl _ 0 beat rfl rfl (HQ.out.2.there rfl) (by kernel_rfl) (by kernel_rfl) ?_
            refine hK.out _ _ (KS.out _ _ (HDe.out.stored HQ.out).1) (fun hHeld => ?_)
            clear hK K
            try simp only [Act.put]
            refine wpAnyH_done (by kernel_rfl) ?_ _
            exact ⟨rfl, _, rfl, (HDe.out.stored HQ.out).2, (HDe.out.stored HQ.out).1, HQ.out.1⟩
          · go_simp
            have HDn := Lib.hid (HDd.out.fresh ((Frm.refl _ (wd)).alloc (.cells msg0 30)))
            have HQ : Hid (MBox g (wd).heap.size ((wd).alloc (.cells msg0 30))) := Lib.hid ⟨HDd.out.glt, Blk.new _ _ msg0⟩
            clear HDd
            have HDd := HDn
            clear HDn
            refine hK.out _ _ (KS.out _ _ HDd.out) (fun hHeld => ?_)
            clear hK K
            try simp only [Act.put, List.setIfInBounds_toArray, List.set_cons_zero, List.set_cons_succ]
            refine wpAnyH_ready (rs := [7]) (by kernel_rfl) (by simp) (AllReadyH.cons (op_later (op_later (op_later (op_later (op_later (op_later (op_later (op_here)))))))) (fun K hK => ?_) AllReadyH.nil)
            go_simp
            refine (Dec.index (p6 := p6) (p7 := p6 + 1) (bs := [1, 3, 0, 0, 0, 0, 0, 0, 0, 0]) HDd.out 3 [0, 0, 0, 0, 0, 0, 0, 0] (by omega) (by decide +kernel)).mono ?_
            rintro e we ⟨rfl, he, fe⟩
            have HDe := Lib.hid he
            have HQn := Lib.hid (HDd.out.boxOn HQ.out fe)
            clear HQ
            have HQ := HQn
            clear HQn
            clear he fe HDd
            refine hK.out _ _ (KS.out _ _ HDe.out) (fun hHeld => ?_)
            clear hK K
            try simp only [Act.put, List.setIfInBounds_toArray, List.set_cons_zero, List.set_cons_succ]
            refine wpAnyH_take (i := 8) (v := ?_) (op_later (op_later (op_later (op_later (op_later (op_later (op_later (op_later (op_here))))))))) (by kernel_rfl) (by kernel_rfl) (by kernel_rfl) (fun _ _ _ h => by cases h.1) (Or.inl ⟨by rfl, ?_⟩) (by assumption) ?_
            rotate_left 1
            (intro w hSw; (try dsimp only at hSw); go_simp; try with_reducible rfl)
            try simp only [Act.put, List.setIfInBounds_toArray, List.set_cons_zero, List.set_cons_succ]
            refine wpAnyH_ready (rs := [10]) (by kernel_rfl) (by simp) (AllReadyH.cons (op_later (op_later (op_later (op_later (op_later (op_later (op_later (op_later (op_later (op_later (op_here))))))))))) (fun K hK => ?_) AllReadyH.nil)
            rw [if_pos (by rfl)]
            refine wp_store_mid _ _ _ rfl _ 0 beat rfl rfl (HQ.out.2.there rfl) (by kernel_rfl) (by kernel_rfl) ?_
            refine hK.out _ _ (KS.out _ _ (HDe.out.stored HQ.out).1) (fun hHeld => ?_)
            clear hK K
            try simp only [Act.put]
            refine wpAnyH_done (by kernel_rfl) ?_ _
            exact ⟨rfl, _, rfl, (HDe.out.stored HQ.out).2, (HDe.out.stored HQ.out).1, HQ.out.1⟩
        · go_simp
          have HDn := Lib.hid (HDc.out.fresh ((Frm.refl _ (wc)).alloc (.cells msg0 30)))
          have HQ : Hid (MBox g (wc).heap.size ((wc).alloc (.cells msg0 30))) := Lib.hid ⟨HDc.out.glt, Blk.new _ _ msg0⟩
          clear HDc
          have HDc := HDn
          clear HDn
          refine hK.out _ _ (KS.out _ _ HDc.out) (fun hHeld => ?_)
          clear hK K
          try simp only [Act.put, List.setIfInBounds_toArray, List.set_cons_zero, List.set_cons_succ]
          refine wpAnyH_ready (rs := [5]) (by kernel_rfl) (by simp) (AllReadyH.cons (op_later (op_later (op_later (op_later (op_later (op_here)))))) (fun K hK => ?_) AllReadyH.nil)
          go_simp
          refine (Dec.number (p6 := p6) (p7 := p6 + 1) (bs := [1, 2, 1, 3, 0, 0, 0, 0, 0, 0, 0, 0]) HDc.out 2 15 [1, 3, 0, 0, 0, 0, 0, 0, 0, 0] (by omega) (by omega) (by decide +kernel)).mono ?_
          rintro e wd ⟨rfl, hd, fd⟩
          have HDd := Lib.hid hd
          have HQn := Lib.hid (HDc.out.boxOn HQ.out fd)
          clear HQ
          have HQ := HQn
          clear HQn
          clear hd fd HDc
          refine hK.out _ _ (KS.out _ _ HDd.out) (fun hHeld => ?_)
          clear hK K
          try simp only [Act.put, List.setIfInBounds_toArray, List.set_cons_zero, List.set_cons_succ]
          refine wpAnyH_ready (rs := [7]) (by kernel_rfl) (by simp) (AllReadyH.cons (op_later (op_later (op_later (op_later (op_later (op_later (op_later (op_here)))))))) (fun K hK => ?_) AllReadyH.nil)
          go_simp
          refine (Dec.index (p6 := p6) (p7 := p6 + 1) (bs := [1, 3, 0, 0, 0, 0, 0, 0, 0, 0]) HDd.out 3 [0, 0, 0, 0, 0, 0, 0, 0] (by omega) (by decide +kernel)).mono ?_
          rintro e we ⟨rfl, he, fe⟩
          have HDe := Lib.hid he
          have HQn := Lib.hid (HDd.out.boxOn HQ.out fe)
          clear HQ
          have HQ := HQn
          clear HQn
          clear he fe HDd
          refine hK.out _ _ (KS.out _ _ HDe.out) (fun hHeld => ?_)
          clear hK K
          try simp only [Act.put, List.setIfInBounds_toArray, List.set_cons_zero, List.set_cons_succ]
          refine wpAnyH_take (i := 8) (v := ?_) (op_later (op_later (op_later (op_later (op_later (op_later (op_later (op_later (op_here))))))))) (by kernel_rfl) (by kernel_rfl) (by kernel_rfl) (fun _ _ _ h => by cases h.1) (Or.inl ⟨by rfl, ?_⟩) (by assumption) ?_
          rotate_left 1
          (intro w hSw; (try dsimp only at hSw); go_simp; try with_reducible rfl)
          try simp only [Act.put, List.setIfInBounds_toArray, List.set_cons_zero, List.set_cons_succ]
          refine wpAnyH_ready (rs := [10]) (by kernel_rfl) (by simp) (AllReadyH.cons (op_later (op_later (op_later (op_later (op_later (op_later (op_later (op_later (op_later (op_later (op_here))))))))))) (fun K hK => ?_) AllReadyH.nil)
          rw [if_pos (by rfl)]
          refine wp_store_mid _ _ _ rfl _ 0 beat rfl rfl (HQ.out.2.there rfl) (by kernel_rfl) (by kernel_rfl) ?_
          refine hK.out _ _ (KS.out _ _ (HDe.out.stored HQ.out).1) (fun hHeld => ?_)
          clear hK K
          try simp only [Act.put]
          refine wpAnyH_done (by kernel_rfl) ?_ _
          exact ⟨rfl, _, rfl, (HDe.out.stored HQ.out).2, (HDe.out.stored HQ.out).1, HQ.out.1⟩
      · go_simp
        have HDn := Lib.hid (HDb.out.fresh ((Frm.refl _ (wb)).alloc (.cells msg0 30)))
        have HQ : Hid (MBox g (wb).heap.size ((wb).alloc (.cells msg0 30))) := Lib.hid ⟨HDb.out.glt, Blk.new _ _ msg0⟩
        clear HDb
        have HDb := HDn
        clear HDn
        refine hK.out _ _ (KS.out _ _ HDb.out) (fun hHeld => ?_)
        clear hK K
        try simp only [Act.put, List.setIfInBounds_toArray, List.set_cons_zero, List.set_cons_succ]
        refine wpAnyH_ready (rs := [3]) (by kernel_rfl) (by simp) (AllReadyH.cons (op_later (op_later (op_later (op_here)))) (fun K hK => ?_) AllReadyH.nil)
        go_simp
        refine (Dec.number (p6 := p6) (p7 := p6 + 1) (bs := [1, 1, 1, 2, 1, 3, 0, 0, 0, 0, 0, 0, 0, 0]) HDb.out 1 15 [1, 2, 1, 3, 0, 0, 0, 0, 0, 0, 0, 0] (by omega) (by omega) (by decide +kernel)).mono ?_
        rintro e wc ⟨rfl, hc, fc⟩
        have HDc := Lib.hid hc
        have HQn := Lib.hid (HDb.out.boxOn HQ.out fc)
        clear HQ
        have HQ := HQn
        clear HQn
        clear hc fc HDb
        refine hK.out _ _ (KS.out _ _ HDc.out) (fun hHeld => ?_)
        clear hK K
        try simp only [Act.put, List.setIfInBounds_toArray, List.set_cons_zero, List.set_cons_succ]
        refine wpAnyH_ready (rs := [5]) (by kernel_rfl) (by simp) (AllReadyH.cons (op_later (op_later (op_later (op_later (op_later (op_here)))))) (fun K hK => ?_) AllReadyH.nil)
        go_simp
        refine (Dec.number (p6 := p6) (p7 := p6 + 1) (bs := [1, 2, 1, 3, 0, 0, 0, 0, 0, 0, 0, 0]) HDc.out 2 15 [1, 3, 0, 0, 0, 0, 0, 0, 0, 0] (by omega) (by omega) (by decide +kernel)).mono ?_
        rintro e wd ⟨rfl, hd, fd⟩
        have HDd := Lib.hid hd
        have HQn := Lib.hid (HDc.out.boxOn HQ.out fd)
        clear HQ
        have HQ := HQn
        clear HQn
        clear hd fd HDc
        refine hK.out _ _ (KS.out _ _ HDd.out) (fun hHeld => ?_)
        clear hK K
        try simp only [Act.put, List.setIfInBounds_toArray, List.set_cons_zero, List.set_cons_succ]
        refine wpAnyH_ready (rs := [7]) (by kernel_rfl) (by simp) (AllReadyH.cons (op_later (op_later (op_later (op_later (op_later (op_later (op_later (op_here)))))))) (fun K hK => ?_) AllReadyH.nil)
        go_simp
        refine (Dec.index (p6 := p6) (p7 := p6 + 1) (bs := [1, 3, 0, 0, 0, 0, 0, 0, 0, 0]) HDd.out 3 [0, 0, 0, 0, 0, 0, 0, 0] (by omega) (by decide +kernel)).mono ?_
        rintro e we ⟨rfl, he, fe⟩
        have HDe := Lib.hid he
        have HQn := Lib.hid (HDd.out.boxOn HQ.out fe)
        clear HQ
        have HQ := HQn
        clear HQn
        clear he fe HDd
        refine hK.out _ _ (KS.out _ _ HDe.out) (fun hHeld => ?_)
        clear hK K
        try simp only [Act.put, List.setIfInBounds_toArray, List.set_cons_zero, List.set_cons_succ]
        refine wpAnyH_take (i := 8) (v := ?_) (op_later (op_later (op_later (op_later (op_later (op_later (op_later (op_later (op_here))))))))) (by kernel_rfl) (by kernel_rfl) (by kernel_rfl) (fun _ _ _ h => by cases h.1) (Or.inl ⟨by rfl, ?_⟩) (by assumption) ?_
        rotate_left 1
        (intro w hSw; (try dsimp only at hSw); go_simp; try with_reducible rfl)
        try simp only [Act.put, List.setIfInBounds_toArray, List.set_cons_zero, List.set_cons_succ]
        refine wpAnyH_ready (rs := [10]) (by kernel_rfl) (by simp) (AllReadyH.cons (op_later (op_later (op_later (op_later (op_later (op_later (op_later (op_later (op_later (op_later (op_here))))))))))) (fun K hK => ?_) AllReadyH.nil)
        rw [if_pos (by rfl)]
        refine wp_store_mid _ _ _ rfl _ 0 beat rfl rfl (HQ.out.2.there rfl) (by kernel_rfl) (by kernel_rfl) ?_
        refine hK.out _ _ (KS.out _ _ (HDe.out.stored HQ.out).1) (fun hHeld => ?_)
        clear hK K
        try simp only [Act.put]
        refine wpAnyH_done (by kernel_rfl) ?_ _
        exact ⟨rfl, _, rfl, (HDe.out.stored HQ.out).2, (HDe.out.stored HQ.out).1, HQ.out.1⟩
    · go_simp
      have HDn := Lib.hid (HDa.out.fresh ((Frm.refl _ (W4.drew)).alloc (.cells msg0 30)))
      have HQ : Hid (MBox g (W4.drew).heap.size ((W4.drew).alloc (.cells msg0 30))) := Lib.hid ⟨HDa.out.glt, Blk.new _ _ msg0⟩
      clear HDa
      have HDa := HDn
      clear HDn
      refine hK.out _ _ (KS.out _ _ HDa.out) (fun hHeld => ?_)
      clear hK K
      try simp only [Act.put, List.setIfInBounds_toArray, List.set_cons_zero, List.set_cons_succ]
      refine wpAnyH_ready (rs := [1]) (by kernel_rfl) (by simp) (AllReadyH.cons (op_later (op_here)) (fun K hK => ?_) AllReadyH.nil)
      go_simp
      refine (Dec.number (p6 := p6) (p7 := p6 + 1) (bs := beatB) HDa.out 7 10 [1, 1, 1, 2, 1, 3, 0, 0, 0, 0, 0, 0, 0, 0] (by omega) (by omega) (by decide +kernel)).mono ?_
      rintro e wb ⟨rfl, hb, fb⟩
      have HDb := Lib.hid hb
      have HQn := Lib.hid (HDa.out.boxOn HQ.out fb)
      clear HQ
      have HQ := HQn
      clear HQn
      clear hb fb HDa
      refine hK.out _ _ (KS.out _ _ HDb.out) (fun hHeld => ?_)
      clear hK K
      try simp only [Act.put, List.setIfInBounds_toArray, List.set_cons_zero, List.set_cons_succ]
      refine wpAnyH_ready (rs := [3]) (by kernel_rfl) (by simp) (AllReadyH.cons (op_later (op_later (op_later (op_here)))) (fun K hK => ?_) AllReadyH.nil)
      go_simp
      refine (Dec.number (p6 := p6) (p7 := p6 + 1) (bs := [1, 1, 1, 2, 1, 3, 0, 0, 0, 0, 0, 0, 0, 0]) HDb.out 1 15 [1, 2, 1, 3, 0, 0, 0, 0, 0, 0, 0, 0] (by omega) (by omega) (by decide +kernel)).mono ?_
      rintro e wc ⟨rfl, hc, fc⟩
      have HDc := Lib.hid hc
      have HQn := Lib.hid (HDb.out.boxOn HQ.out fc)
      clear HQ
      have HQ := HQn
      clear HQn
      clear hc fc HDb
      refine hK.out _ _ (KS.out _ _ HDc.out) (fun hHeld => ?_)
      clear hK K
      try simp only [Act.put, List.setIfInBounds_toArray, List.set_cons_zero, List.set_cons_succ]
      refine wpAnyH_ready (rs := [5]) (by kernel_rfl) (by simp) (AllReadyH.cons (op_later (op_later (op_later (op_later (op_later (op_here)))))) (fun K hK => ?_) AllReadyH.nil)
      go_simp
      refine (Dec.number (p6 := p6) (p7 := p6 + 1) (bs := [1, 2, 1, 3, 0, 0, 0, 0, 0, 0, 0, 0]) HDc.out 2 15 [1, 3, 0, 0, 0, 0, 0, 0, 0, 0] (by omega) (by omega) (by decide +kernel)).mono ?_
      rintro e wd ⟨rfl, hd, fd⟩
      have HDd := Lib.hid hd
      have HQn := Lib.hid (HDc.out.boxOn HQ.out fd)
      clear HQ
      have HQ := HQn
      clear HQn
      clear hd fd HDc
      refine hK.out _ _ (KS.out _ _ HDd.out) (fun hHeld => ?_)
      clear hK K
      try simp only [Act.put, List.setIfInBounds_toArray, List.set_cons_zero, List.set_cons_succ]
      refine wpAnyH_ready (rs := [7]) (by kernel_rfl) (by simp) (AllReadyH.cons (op_later (op_later (op_later (op_later (op_later (op_later (op_later (op_here)))))))) (fun K hK => ?_) AllReadyH.nil)
      go_simp
      refine (Dec.index (p6 := p6) (p7 := p6 + 1) (bs := [1, 3, 0, 0, 0, 0, 0, 0, 0, 0]) HDd.out 3 [0, 0, 0, 0, 0, 0, 0, 0] (by omega) (by decide +kernel)).mono ?_
      rintro e we ⟨rfl, he, fe⟩
      have HDe := Lib.hid he
      have HQn := Lib.hid (HDd.out.boxOn HQ.out fe)
      clear HQ
      have HQ := HQn
      clear HQn
      clear he fe HDd
      refine hK.out _ _ (KS.out _ _ HDe.out) (fun hHeld => ?_)
      clear hK K
      try simp only [Act.put, List.setIfInBounds_toArray, List.set_cons_zero, List.set_cons_succ]
      refine wpAnyH_take (i := 8) (v := ?_) (op_later (op_later (op_later (op_later (op_later (op_later (op_later (op_later (op_here))))))))) (by kernel_rfl) (by kernel_rfl) (by kernel_rfl) (fun _ _ _ h => by cases h.1) (Or.inl ⟨by rfl, ?_⟩) (by assumption) ?_
      rotate_left 1
      (intro w hSw; (try dsimp only at hSw); go_simp; try with_reducible rfl)
      try simp only [Act.put, List.setIfInBounds_toArray, List.set_cons_zero, List.set_cons_succ]
      refine wpAnyH_ready (rs := [10]) (by kernel_rfl) (by simp) (AllReadyH.cons (op_later (op_later (op_later (op_later (op_later (op_later (op_later (op_later (op_later (op_later (op_here))))))))))) (fun K hK => ?_) AllReadyH.nil)
      rw [if_pos (by rfl)]
      refine wp_store_mid _ _ _ rfl _ 0 beat rfl rfl (HQ.out.2.there rfl) (by kernel_rfl) (by kernel_rfl) ?_
      refine hK.out _ _ (KS.out _ _ (HDe.out.stored HQ.out).1) (fun hHeld => ?_)
      clear hK K
      try simp only [Act.put]
      refine wpAnyH_done (by kernel_rfl) ?_ _
      exact ⟨rfl, _, rfl, (HDe.out.stored HQ.out).2, (HDe.out.stored HQ.out).1, HQ.out.1⟩
  rintro e a W ⟨rfl, q, rfl, hbx, hdc, hgq⟩
  have HB0 : Hid (DB w p6 (p6 + 1) g q [0, 0, 0, 0, 0, 0, 0, 0] W) := Lib.hid ⟨hdc, hgq, hbx⟩
  clear hbx hdc
  have hcl7 : W.cell? ⟨p6 + 1, 0, none⟩ = some (.func (.func 52) #[] #[.pointer (some ⟨p6, 0, none⟩)]) := KS.out _ _ HB0.out.dec
  go_wp2_with fail
  refine (Dec.signed (p6 := p6) (p7 := p6 + 1) (bs := [0, 0, 0, 0, 0, 0, 0, 0]) HB0.out.dec 0 [0, 0, 0, 0, 0, 0, 0] (by omega) (by omega) (by decide +kernel)).mono ?_
  rintro e w1 ⟨rfl, h1, f1⟩
  have HR1 := Lib.hid (HB0.out.read h1 f1)
  have y1 : w1.cell? ⟨q, 4, none⟩ = some (.int .i64 0) := HR1.out.box.cell 4
  have z1 : w1.frozen? ⟨q, 4, none⟩ = false := HR1.out.box.frozen 4
  obtain ⟨V1, hV1⟩ : ∃ V, w1.setCell ⟨q, 4, none⟩ (.int .i64 0) = V := ⟨_, rfl⟩
  have HB1 : Hid (DB w p6 (p6 + 1) g q [0, 0, 0, 0, 0, 0, 0] V1) := Lib.hid (by rw [← hV1]; exact HR1.out.poke 4 _ (by rfl))
  have x1 : V1.cell? ⟨p6 + 1, 0, none⟩ = some (.func (.func 52) #[] #[.pointer (some ⟨p6, 0, none⟩)]) := KS.out _ _ HB1.out.dec
  clear h1 f1 HB0 HR1
  go_wp2_with fail
  clear hV1 y1 z1 x1
  clear hcl7
  refine (Dec.index (p6 := p6) (p7 := p6 + 1) (bs := [0, 0, 0, 0, 0, 0, 0]) HB1.out.dec 0 [0, 0, 0, 0, 0, 0] (by omega) (by decide +kernel)).mono ?_
  rintro e w2 ⟨rfl, h2, f2⟩
  have HR2 := Lib.hid (HB1.out.read h2 f2)
  have y2 : w2.cell? ⟨q, 5, none⟩ = some (.int .i64 0) := HR2.out.box.cell 5
  have z2 : w2.frozen? ⟨q, 5, none⟩ = false := HR2.out.box.frozen 5
  obtain ⟨V2, hV2⟩ : ∃ V, w2.setCell ⟨q, 5, none⟩ (.int .i64 0) = V := ⟨_, rfl⟩
  have HB2 : Hid (DB w p6 (p6 + 1) g q [0, 0, 0, 0, 0, 0] V2) := Lib.hid (by rw [← hV2]; exact HR2.out.poke 5 _ (by rfl))
  have x2 : V2.cell? ⟨p6 + 1, 0, none⟩ = some (.func (.func 52) #[] #[.pointer (some ⟨p6, 0, none⟩)]) := KS.out _ _ HB2.out.dec
  clear h2 f2 HB1 HR2
  go_wp2_with fail
  clear hV2 y2 z2 x2
  refine (Dec.number (p6 := p6) (p7 := p6 + 1) (bs := [0, 0, 0, 0, 0, 0]) HB2.out.dec 0 1 [0, 0, 0, 0, 0] (by omega) (by omega) (by decide +kernel)).mono ?_
  rintro e w3 ⟨rfl, h3, f3⟩
  have HR3 := Lib.hid (HB2.out.read h3 f3)
  have y3 : w3.cell? ⟨q, 6, none⟩ = some (.bool false) := HR3.out.box.cell 6
  have z3 : w3.frozen? ⟨q, 6, none⟩ = false := HR3.out.box.frozen 6
  obtain ⟨V3, hV3⟩ : ∃ V, w3.setCell ⟨q, 6, none⟩ (.bool false) = V := ⟨_, rfl⟩
  have HB3 : Hid (DB w p6 (p6 + 1) g q [0, 0, 0, 0, 0] V3) := Lib.hid (by rw [← hV3]; exact HR3.out.poke 6 _ (by rfl))
  have x3 : V3.cell? ⟨p6 + 1, 0, none⟩ = some (.func (.func 52) #[] #[.pointer (some ⟨p6, 0, none⟩)]) := KS.out _ _ HB3.out.dec
  clear h3 f3 HB2 HR3
  go_wp2_with fail
  clear hV3 y3 z3 x3
  refine (Dec.index (p6 := p6) (p7 := p6 + 1) (bs := [0, 0, 0, 0, 0]) HB3.out.dec 0 [0, 0, 0, 0] (by omega) (by decide +kernel)).mono ?_
  rintro e w4 ⟨rfl, h4, f4⟩
  have HR4 := Lib.hid (HB3.out.read h4 f4)
  have y4 : w4.cell? ⟨q, 7, none⟩ = some (.int .i64 0) := HR4.out.box.cell 7
  have z4 : w4.frozen? ⟨q, 7, none⟩ = false := HR4.out.box.frozen 7
  obtain ⟨V4, hV4⟩ : ∃ V, w4.setCell ⟨q, 7, none⟩ (.int .i64 0) = V := ⟨_, rfl⟩
  have HB4 : Hid (DB w p6 (p6 + 1) g q [0, 0, 0, 0] V4) := Lib.hid (by rw [← hV4]; exact HR4.out.poke 7 _ (by rfl))
  have x4 : V4.cell? ⟨p6 + 1, 0, none⟩ = some (.func (.func 52) #[] #[.pointer (some ⟨p6, 0, none⟩)]) := KS.out _ _ HB4.out.dec
  clear h4 f4 HB3 HR4
  go_wp2_with fail
  clear hV4 y4 z4 x4
  refine (Dec.signed (p6 := p6) (p7 := p6 + 1) (bs := [0, 0, 0, 0]) HB4.out.dec 0 [0, 0, 0] (by omega) (by omega) (by decide +kernel)).mono ?_
  rintro e w5 ⟨rfl, h5, f5⟩
  have HR5 := Lib.hid (HB4.out.read h5 f5)
  have y5 : w5.cell? ⟨q, 8, none⟩ = some (.int .i64 0) := HR5.out.box.cell 8
  have z5 : w5.frozen? ⟨q, 8, none⟩ = false := HR5.out.box.frozen 8
  obtain ⟨V5, hV5⟩ : ∃ V, w5.setCell ⟨q, 8, none⟩ (.int .i64 0) = V := ⟨_, rfl⟩
  have HB5 : Hid (DB w p6 (p6 + 1) g q [0, 0, 0] V5) := Lib.hid (by rw [← hV5]; exact HR5.out.poke 8 _ (by rfl))
  have x5 : V5.cell? ⟨p6 + 1, 0, none⟩ = some (.func (.func 52) #[] #[.pointer (some ⟨p6, 0, none⟩)]) := KS.out _ _ HB5.out.dec
  clear h5 f5 HB4 HR5
  go_wp2_with fail
  clear hV5 y5 z5 x5
  refine (Dec.index (p6 := p6) (p7 := p6 + 1) (bs := [0, 0, 0]) HB5.out.dec 0 [0, 0] (by omega) (by decide +kernel)).mono ?_
  rintro e w6 ⟨rfl, h6, f6⟩
  have HR6 := Lib.hid (HB5.out.read h6 f6)
  have y6 : w6.cell? ⟨q, 9, none⟩ = some (.int .i64 0) := HR6.out.box.cell 9
  have z6 : w6.frozen? ⟨q, 9, none⟩ = false := HR6.out.box.frozen 9
  obtain ⟨V6, hV6⟩ : ∃ V, w6.setCell ⟨q, 9, none⟩ (.int .i64 0) = V := ⟨_, rfl⟩
  have HB6 : Hid (DB w p6 (p6 + 1) g q [0, 0] V6) := Lib.hid (by rw [← hV6]; exact HR6.out.poke 9 _ (by rfl))
  have x6 : V6.cell? ⟨p6 + 1, 0, none⟩ = some (.func (.func 52) #[] #[.pointer (some ⟨p6, 0, none⟩)]) := KS.out _ _ HB6.out.dec
  clear h6 f6 HB5 HR6
  go_wp2_with fail
  clear hV6 y6 z6 x6
  refine (Dec.number (p6 := p6) (p7 := p6 + 1) (bs := [0, 0]) HB6.out.dec 0 8 [0] (by omega) (by omega) (by decide +kernel)).mono ?_
  rintro e w7 ⟨rfl, h7, f7⟩
  have HR7 := Lib.hid (HB6.out.read h7 f7)
  have HB7 := HR7
  clear h7 f7 HB6 HR7
  have x7 : w7.cell? ⟨p6, 0, none⟩ = some (.pointer (some ⟨g, 0, none⟩)) := HB7.out.dec.c6.cell 0
  go_wp2_with fail
  go_loopw [66] (fun v66 wr => v66 = .int .i64 0 ∧ wr = w7) (fun _ _ => 0)
  case atStart => exact ⟨rfl, rfl⟩
  case round =>
    obtain ⟨rfl, rfl⟩ := hrel
    go_wp2_with fail
    have HT := readText_any wr g g [0] false 65536 (by omega) (by simp) HB7.out.dec.rdr
    rw [show ifGood false (textRes 65536 [0]) = some ([], []) from by decide +kernel] at HT
    unfold TextPost at HT
    dsimp only at HT
    refine HT.mono ?_
    rintro e w8 ⟨v8, t, rfl, rfl, hs8, hr8, f8⟩
    obtain ⟨A8, c8, rfl, _⟩ := hs8.shape
    have HB8 : Hid (DB w p6 (p6 + 1) g q [] w8) := Lib.hid (HB7.out.read (HB7.out.dec.read hr8 f8) f8)
    have x8 : w8.cell? ⟨p6, 0, none⟩ = some (.pointer (some ⟨g, 0, none⟩)) := HB8.out.dec.c6.cell 0
    clear hs8 hr8 f8 HT x7 HB7
    simp only [List.length_nil]
    go_wp2_with fail
    refine (whole_any w8 g g [] false HB8.out.dec.rdr).mono ?_
    rintro e w9 ⟨rfl, rfl⟩
    unfold wholeB
    have y0 : w8.cell? ⟨q, 0, none⟩ = some (.int .i64 7) := HB8.out.box.cell 0
    have y1 : w8.cell? ⟨q, 1, none⟩ = some (.int .i64 1) := HB8.out.box.cell 1
    have y2 : w8.cell? ⟨q, 2, none⟩ = some (.int .i64 2) := HB8.out.box.cell 2
    have y3 : w8.cell? ⟨q, 3, none⟩ = some (.int .i64 3) := HB8.out.box.cell 3
    have y4 : w8.cell? ⟨q, 4, none⟩ = some (.int .i64 0) := HB8.out.box.cell 4
    have y5 : w8.cell? ⟨q, 5, none⟩ = some (.int .i64 0) := HB8.out.box.cell 5
    have y6 : w8.cell? ⟨q, 6, none⟩ = some (.bool false) := HB8.out.box.cell 6
    have y7 : w8.cell? ⟨q, 7, none⟩ = some (.int .i64 0) := HB8.out.box.cell 7
    have y8 : w8.cell? ⟨q, 8, none⟩ = some (.int .i64 0) := HB8.out.box.cell 8
    have y9 : w8.cell? ⟨q, 9, none⟩ = some (.int .i64 0) := HB8.out.box.cell 9
    have y10 : w8.cell? ⟨q, 10, none⟩ = some (.slice none 0 0) := HB8.out.box.cell 10
    have y11 : w8.cell? ⟨q, 11, none⟩ = some (.int .i64 0) := HB8.out.box.cell 11
    have y12 : w8.cell? ⟨q, 12, none⟩ = some (.int .i64 0) := HB8.out.box.cell 12
    have y13 : w8.cell? ⟨q, 13, none⟩ = some (.slice none 0 0) := HB8.out.box.cell 13
    have y14 : w8.cell? ⟨q, 14, none⟩ = some (.slice none 0 0) := HB8.out.box.cell 14
    have y15 : w8.cell? ⟨q, 15, none⟩ = some (.slice none 0 0) := HB8.out.box.cell 15
    simp only [Bool.not_false, List.isEmpty_nil, Bool.and_self]
    go_wp2_with fail
    refine (rightBeat_any w8).mono ?_
    rintro e w10 ⟨rfl, f10⟩
    have HB10 := Lib.hid (HB8.out.fresh f10)
    clear f10 HB8 x8 y0 y1 y2 y3 y4 y5 y6 y7 y8 y9 y10 y11 y12 y13 y14 y15
    obtain ⟨cs, hcs⟩ : ∃ cs : List Value, cs = beat.toList := ⟨_, rfl⟩
    have HCL : Hid (w10.rangeAt q 0 cs) := Lib.hid (by rw [hcs]; intro j v hv; rw [Nat.zero_add, HB10.out.box.cell j]; simpa using hv)
    have HCI : Hid ((Try.prog.info? 30).map (·.size) = some cs.length) := Lib.hid (by rw [hcs]; kernel_rfl)
    have HCJ : Hid ((Try.prog.info? 30).map (·.size) = some cs.toArray.size) := Lib.hid (by rw [hcs]; kernel_rfl)
    have HTH : Hid (w10.there w.heap.size 0 cs.toArray.size) := Lib.hid (by rw [hcs]; exact HB10.out.dec.res.there rfl)
    have HON : Hid (cs.toArray.all (·.oneCell') = true) := Lib.hid (by rw [hcs]; kernel_rfl)
    have HCS := Lib.hid hcs
    clear hcs
    go_wp2_with (first | (with_reducible refine wpList_load_mid rfl 30 (.tmp 10) rfl q 0 rfl cs _ HCL.out Try.underlying30 rfl HCI.out ?_) | (with_reducible refine wpList_store_mid rfl 30 (.tmp 2) (.tmp 109) rfl w.heap.size 0 cs.toArray rfl rfl HTH.out HCJ.out HON.out ?_))
    have hra : (w10.setCells w.heap.size 0 cs).rangeAt w.heap.size 0 cs := World.rangeAt_setCells_same w10 w.heap.size 0 cs (by have := HTH.out; simpa using this)
    have hld := run_loadVar_mid (P := Try.prog) (w10.setCells w.heap.size 0 cs) w.heap.size 0 30 cs _ hra Try.underlying30 rfl HCI.out
    refine bodyPost_ret (v := .tuple #[.agg beat, .int .i64 0]) ?_ rfl ⟨rfl, ?_⟩
    · rw [results_cell_tmp Try.results14]
      show (((asAddr (.pointer (some ⟨w.heap.size, 0, none⟩))).run Try.prog (w10.setCells w.heap.size 0 cs)).andThen fun a w₁ => ((loadVar 30 a).run Try.prog w₁).andThen fun v w₂ => Result.ok (Value.tuple #[v, Value.int .i64 0]) w₂) = _
      simp only [asAddr, Sem.run_pure, Result.andThen_ok, hld]
      rw [HCS.out]
    · exact HB10.out.dec.frm.trans' (frm_setCells w.heap.size cs 0 w10) (fun k hk e => by omega)
end Go.Proofs.Ytlceembcehokoaa

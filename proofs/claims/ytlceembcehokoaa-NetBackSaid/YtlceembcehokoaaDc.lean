/- Dn3, Dn4. (Put together by mg.py.) -/
import Derived.Test.YtlceembcehokoaaDb
import Derived.Test.YtlceembcehokoaaCa
import Derived.Laws.EntriesVeiled
import Derived.Laws.ResultCell
namespace Go.Proofs.Ytlceembcehokoaa
open Go.RowKit ReadM
set_option linter.unusedVariables false
set_option maxRecDepth 100000

/-- a snapshot's fields -/
structure SC where
  i : Nat
  t : Nat
  vs : List Int
  ls : List Int
  ds : List UInt8
/-- what is read of a snapshot's bytes, and where the reader stands behind -/
def readS (s : RS) : SC × RS :=
  let a := rdn 1099511627776 s
  let b := rdn 1099511627776 a.2
  let v := rlist b.2
  let l := rlist v.2
  let d := rdt 60000 l.2
  (⟨a.1, b.1, v.1, l.1, d.1⟩, d.2)
def decS (bs : List UInt8) : Option SC :=
  if wholeS (readS (bs, false)).2 = true ∧ rightS ((readS (bs, false)).1.i : Int) ((readS (bs, false)).1.t : Int) (readS (bs, false)).1.vs (readS (bs, false)).1.ls (readS (bs, false)).1.ds = true then some (readS (bs, false)).1 else none
def snap0 : Array Value := #[.int .i64 0, .int .i64 0, .slice none 0 0, .slice none 0 0, .slice none 0 0]
/-- while a snapshot is read -/
structure KD (w : World) (p g : Nat) (s : RS) (wk : World) : Prop where
  c4 : Blk wk p 83 #[.pointer (some ⟨g, 0, none⟩)]
  rdr : RdrAt wk g g s.1 s.2
  low : w.heap.size < g
  res : Blk wk w.heap.size 28 snap0
  frm : Fresh w wk
  len : s.1.length ≤ 1000000
theorem KD.fresh {w wk w' : World} {p g : Nat} {s : RS} (h : KD w p g s wk) (F : Fresh wk w') : KD w p g s w' :=
  ⟨h.c4.frm F (fun f => f), h.rdr.frm F (fun f => f) (fun _ _ f => f), h.low, h.res.frm F (fun f => f), h.frm.trans F, h.len⟩
theorem KD.read {w wk w' : World} {p g : Nat} {s t : RS} (h : KD w p g s wk) (hr : RdrAt w' g g t.1 t.2) (F : Frm (fun k => k = g) wk w') (hl : t.1.length ≤ s.1.length) : KD w p g t w' := by
  obtain ⟨_, hb⟩ := h.rdr.blk
  exact ⟨h.c4.frm F (h.c4.apart hb (by decide)), hr, h.low, h.res.frm F (h.res.apart hb (by decide)), h.frm.trans' F (fun k hk e => by have := h.low; omega), Nat.le_trans hl h.len⟩
theorem KD.write {w wk w' : World} {p g q : Nat} {s : RS} {cs : Array Value} (h : KD w p g s wk) (hq : Blk wk q 28 cs) (hlt : g < q) (F : Frm (fun j => j = q) wk w') : KD w p g s w' := by
  have hlow := h.low
  exact ⟨h.c4.frm F (h.c4.apart hq (by decide)), h.rdr.frm F (by omega) (fun k hk e => by omega), h.low, h.res.frm F (by omega), h.frm.trans' F (fun k hk e => by omega), h.len⟩
theorem KD.glt {w wk : World} {p g : Nat} {s : RS} (h : KD w p g s wk) : g < wk.heap.size := by
  obtain ⟨_, hb⟩ := h.rdr.blk
  exact hb.lt
def KNum (w : World) (p g : Nat) (wk : World) (x : Value) (t : RS) (e : Ending) (w' : World) : Prop := e = .returned x ∧ KD w p g t w' ∧ Frm (fun k => k = g) wk w'
theorem KD.num {w wk : World} {p g : Nat} {s : RS} (h : KD w p g s wk) (most : Nat) (hm : most < 18446744073709551616) {x : Nat} {t : RS} (hx : rdn most s = (x, t)) :
    Calls Try.prog 53 #[.pointer (some ⟨g, 0, none⟩), .int .u64 (most : Int)] wk fun e w' => KNum w p g wk (.int .u64 (x : Int)) t e w' := by
  refine (pNum wk g s most hm h.rdr).mono ?_
  rintro e w' ⟨h1, h2, h3⟩
  have hl := rdn_len most s
  rw [hx] at h1 h2 hl
  exact ⟨h1, h.read h2 h3 hl, h3⟩
/-- a snapshot's box -/
def SBox (g q : Nat) (cs : Array Value) (w : World) : Prop := g < q ∧ Blk w q 28 cs
theorem KD.boxOn {w wk w' : World} {p g q : Nat} {s : RS} {cs : Array Value} (h : KD w p g s wk) (hq : SBox g q cs wk) (F : Frm (fun k => k = g) wk w') : SBox g q cs w' := by
  obtain ⟨_, hb⟩ := h.rdr.blk
  exact ⟨hq.1, hq.2.frm F (hq.2.apart hb (by decide))⟩
theorem KD.stored {w wk : World} {p g q : Nat} {s : RS} {cs : Array Value} (h : KD w p g s wk) (hq : SBox g q cs wk) (l : List Value) (hl : l.length = cs.size) : KD w p g s (wk.setCells q 0 l) ∧ Blk (wk.setCells q 0 l) q 28 l.toArray :=
  ⟨h.write hq.2 hq.1 (by
    have := frm_setCells q l 0 wk
    have e : (fun k => q = k) = (fun k => k = q) := by funext k; exact propext eq_comm
    rwa [e] at this), blk_all hq.2 l hl⟩

/-- a snapshot's lists in memory from B on -/
structure SlS (w : World) (B : Nat) (AV : Option Addr) (cv : Nat) (AL : Option Addr) (cl : Nat) (AD : Option Addr) (cd : Nat) (vs ls : List Int) (ds : List UInt8) : Prop where
  v : Sl w B 3 1 (.slice AV vs.length cv) vs.length (ivs vs)
  l : Sl w B 3 1 (.slice AL ls.length cl) ls.length (ivs ls)
  d : Sl w B 5 1 (.slice AD ds.length cd) ds.length (ds.map bv)
  q1 : vs.length ≤ 1000
  q2 : ls.length ≤ 1000
  q3 : ds.length ≤ 100000
theorem SlS.frm {w w' : World} {B : Nat} {AV : Option Addr} {cv : Nat} {AL : Option Addr} {cl : Nat} {AD : Option Addr} {cd : Nat} {vs ls : List Int} {ds : List UInt8} {S : Nat → Prop} (h : SlS w B AV cv AL cl AD cd vs ls ds) (F : Frm S w w') (hS : ∀ k, B ≤ k → k < w.heap.size → ¬ S k) : SlS w' B AV cv AL cl AD cd vs ls ds :=
  ⟨h.v.frm F (fun k hk => hS k (h.v.lt k hk).1 (h.v.lt k hk).2), h.l.frm F (fun k hk => hS k (h.l.lt k hk).1 (h.l.lt k hk).2), h.d.frm F (fun k hk => hS k (h.d.lt k hk).1 (h.d.lt k hk).2), h.q1, h.q2, h.q3⟩
theorem SlS.rds {w : World} {B : Nat} {AV : Option Addr} {cv : Nat} {AL : Option Addr} {cl : Nat} {AD : Option Addr} {cd : Nat} {vs ls : List Int} {ds : List UInt8} (h : SlS w B AV cv AL cl AD cd vs ls ds) : RdS w AV AL AD vs ls ds :=
  ⟨h.v.rd, h.l.rd, h.d.rd, h.q1, h.q2, h.q3⟩
/-- what a snapshot's reading answers -/
def KDPost (w : World) (r : Option SC) (e : Ending) (w' : World) : Prop := match r with
  | none => e = .returned (.tuple #[.agg snap0, .int .i64 6]) ∧ Fresh w w'
  | some c => ∃ AV cv AL cl AD cd, e = .returned (.tuple #[.agg #[.int .i64 (c.i : Int), .int .i64 (c.t : Int), .slice AV c.vs.length cv, .slice AL c.ls.length cl, .slice AD c.ds.length cd], .int .i64 0]) ∧ SlS w' w.heap.size AV cv AL cl AD cd c.vs c.ls c.ds ∧ Fresh w w'
theorem rdS_of {X X' : World} {B k0 : Nat} {AV AL AD : Option Addr} {cv cl cd : Nat} {vs ls : List Int} {ds : List UInt8} (h1 : Sl X B 3 1 (.slice AV vs.length cv) vs.length (ivs vs)) (h2 : Sl X B 3 1 (.slice AL ls.length cl) ls.length (ivs ls)) (h3 : Sl X B 5 1 (.slice AD ds.length cd) ds.length (ds.map bv))
    (F : Frm (fun k => k0 = k) X X') (hk : k0 < B) (q1 : vs.length ≤ 1000) (q2 : ls.length ≤ 1000) (q3 : ds.length ≤ 100000) : SlS X' k0 AV cv AL cl AD cd vs ls ds :=
  ⟨(h1.frm F (fun k hk' e => by have := (h1.lt k hk').1; omega)).less (Nat.le_of_lt hk), (h2.frm F (fun k hk' e => by have := (h2.lt k hk').1; omega)).less (Nat.le_of_lt hk), (h3.frm F (fun k hk' e => by have := (h3.lt k hk').1; omega)).less (Nat.le_of_lt hk), q1, q2, q3⟩
theorem kd_no {w : World} {bs : List UInt8} {e : Ending} {w' : World} (h : decS bs = none) (he : e = .returned (.tuple #[.agg snap0, .int .i64 6])) (F : Fresh w w') : KDPost w (decS bs) e w' := by
  rw [h]; exact ⟨he, F⟩
theorem kd_yes {w : World} {bs : List UInt8} {c : SC} {e : Ending} {w' : World} {AV AL AD : Option Addr} {cv cl cd : Nat} (h : decS bs = some c)
    (he : e = .returned (.tuple #[.agg #[.int .i64 (c.i : Int), .int .i64 (c.t : Int), .slice AV c.vs.length cv, .slice AL c.ls.length cl, .slice AD c.ds.length cd], .int .i64 0])) (hr : SlS w' w.heap.size AV cv AL cl AD cd c.vs c.ls c.ds) (F : Fresh w w') : KDPost w (decS bs) e w' := by
  rw [h]; exact ⟨AV, cv, AL, cl, AD, cd, he, hr, F⟩
set_option maxHeartbeats 16000000 in
theorem keepDecode_any (w : World) (A : Option Addr) (cap : Nat) (bs : List UInt8) (hA : Rd w w.heap.size A (bs.map bv)) (hl : bs.length ≤ 1000000) (hc : bs.length ≤ cap) (hm : cap ≤ maxLen) :
    Calls Try.prog 58 #[.slice A bs.length cap] w fun e w' => KDPost w (decS bs) e w' := by
  have HA := Lib.hid hA
  have hmf : ∀ (fn : Fn) (first cap : Array Value) (w : World), (Instr.makeFunc fn first cap).run Try.prog w = .ok (.func fn first cap) w := fun _ _ _ _ => rfl
  obtain ⟨W0, hW0⟩ : ∃ W0, w.alloc (.cells #[.int .i64 0, .int .i64 0, .slice none 0 0, .slice none 0 0, .slice none 0 0] 28) = W0 := ⟨_, rfl⟩
  have HF0 : Hid (Fresh w W0) := Lib.hid (by rw [← hW0]; exact ((Frm.refl _ w).alloc _))
  have BX : Hid (Blk W0 w.heap.size 28 snap0) := Lib.hid (by rw [← hW0]; exact (Blk.new w _ snap0))
  clear hA
  go_enter Try.func58, Try.ntmps58
  go_wp2_with fail
  first | rw [hW0] | skip
  clear hW0
  have HRD : Hid (Rd W0 W0.heap.size A (bs.map bv)) := Lib.hid ((HA.out.fresh (Nat.le_refl _) HF0.out).more HF0.out.size)
  refine (rdr_new W0 W0.heap.size A cap bs HRD.out (Nat.le_refl _) (by omega) hc hm).mono ?_
  rintro e w2 ⟨g, rfl, hr2, f2, hg2⟩
  obtain ⟨p, hp⟩ : ∃ p, w2.heap.size = p := ⟨_, rfl⟩
  obtain ⟨W4, hW4⟩ : ∃ W4, w2.alloc (.cells #[.pointer (some ⟨g, 0, none⟩)] 83) = W4 := ⟨_, rfl⟩
  have f4 : Fresh w2 W4 := by
    rw [← hW4]
    exact (Frm.refl _ w2).alloc _
  have b4 : Blk W4 p 83 #[.pointer (some ⟨g, 0, none⟩)] := by
    rw [← hW4, ← hp]
    exact Blk.new w2 _ _
  have hgr : w.heap.size < g := by have := BX.out.lt; omega
  have HD4 : Hid (KD w p g (bs, false) W4) := Lib.hid ⟨b4, hr2.frm f4 (fun f => f) (fun _ _ f => f), hgr, BX.out.frm (f2.trans f4) (fun f => f), (HF0.out.trans f2).trans f4, hl⟩
  clear hr2 f2 f4 b4 BX HRD HF0 HA
  go_upto_region 3 with fail
  first | rw [hW4] | skip
  first | rw [hp] | skip
  clear hW4 hp
  have HDa : Hid (KD w p g (bs, false) W4.drew) := Lib.hid (HD4.out.fresh ((Frm.refl _ W4).drew))
  have KS : Hid (∀ w' s, KD w p g s w' → w'.cell? ⟨p, 0, none⟩ = some (.pointer (some ⟨g, 0, none⟩))) := Lib.hid fun w' s h => h.c4.cell 0
  obtain ⟨⟨x1, s1⟩, h1⟩ : ∃ y, rdn 1099511627776 (bs, false) = y := ⟨_, rfl⟩
  obtain ⟨⟨x2, s2⟩, h2⟩ : ∃ y, rdn 1099511627776 s1 = y := ⟨_, rfl⟩
  obtain ⟨⟨vs, s3⟩, h3⟩ : ∃ y, rlist s2 = y := ⟨_, rfl⟩
  obtain ⟨⟨ls, s4⟩, h4⟩ : ∃ y, rlist s3 = y := ⟨_, rfl⟩
  obtain ⟨⟨ds, s5⟩, h5⟩ : ∃ y, rdt 60000 s4 = y := ⟨_, rfl⟩
  have HDS : Hid (readS (bs, false) = (⟨x1, x2, vs, ls, ds⟩, s5)) := Lib.hid (by
    unfold readS
    dsimp only
    rw [h1]
    dsimp only
    rw [h2]
    dsimp only
    rw [h3]
    dsimp only
    rw [h4]
    dsimp only
    rw [h5])
  have H1 := Lib.hid h1
  have H2 := Lib.hid h2
  have H3 := Lib.hid h3
  have H4 := Lib.hid h4
  have H5 := Lib.hid h5
  have hx1 : x1 ≤ 1099511627776 := by have := rdn_le 1099511627776 (bs, false); rw [h1] at this; exact this
  have hx2 : x2 ≤ 1099511627776 := by have := rdn_le 1099511627776 s1; rw [h2] at this; exact this
  have hvl : vs.length ≤ 15 := by have := (rlist_len s2).1; rw [h3] at this; exact this
  have hll : ls.length ≤ 15 := by have := (rlist_len s3).1; rw [h4] at this; exact this
  have hdl : ds.length ≤ 60000 := by have := rdt_le (most := 60000) (by omega) s4; rw [h5] at this; dsimp only at this; omega
  have hw1 : IntKind.i64.wrap (x1 : Int) = (x1 : Int) := IntWalk.i64_in _ (by omega)
  have hw2 : IntKind.i64.wrap (x2 : Int) = (x2 : Int) := IntWalk.i64_in _ (by omega)
  clear HD4 h1 h2 h3 h4 h5
  refine Code.wp_mono (Q := fun e a w' => e = .normal ∧ ∃ q, a = ⟨#[.slice A bs.length cap, undef, .pointer (some ⟨w.heap.size, 0, none⟩), .int .i64 0, .pointer (some ⟨p, 0, none⟩), .func (.func 98) #[] #[.pointer (some ⟨p, 0, none⟩)], .pointer (some ⟨q, 0, none⟩), .slice A bs.length cap, .pointer (some ⟨g, 0, none⟩), .func (.func 98) #[] #[.pointer (some ⟨p, 0, none⟩)], .pointer (some ⟨g, 0, none⟩), .int .u64 (x1 : Int), .int .i64 (x1 : Int), .pointer (some ⟨g, 0, none⟩), .int .u64 (x2 : Int), .int .i64 (x2 : Int), .agg #[.int .i64 (x1 : Int), .int .i64 (x2 : Int), .slice none 0 0, .slice none 0 0, .slice none 0 0], undef, undef, undef, undef, undef, undef, undef, undef, undef, undef, undef, undef, undef, undef, undef, undef, undef, undef, undef, undef, undef], []⟩ ∧ KD w p g s2 w' ∧ SBox g q #[.int .i64 (x1 : Int), .int .i64 (x2 : Int), .slice none 0 0, .slice none 0 0, .slice none 0 0] w') ?_ ?_
  rotate_left 1
  · refine wp_region_held_drew (S := fun w' => w'.cell? ⟨p, 0, none⟩ = some (.pointer (some ⟨g, 0, none⟩))) (by kernel_rfl) (KS.out _ _ HDa.out) (fun hHeld => ?_)
    refine wpAnyH_take (i := 0) (v := ?_) (op_here) (by kernel_rfl) (by kernel_rfl) (by kernel_rfl) (fun _ _ _ h => by cases h.1) (Or.inl ⟨by rfl, ?_⟩) (by assumption) ?_
    rotate_left 1
    (intro w hSw; (try dsimp only at hSw); go_simp; try with_reducible rfl)
    try simp only [Act.put, List.setIfInBounds_toArray, List.set_cons_zero, List.set_cons_succ]
    refine wpAnyH_take (i := 3) (v := ?_) (op_later (op_later (op_later (op_here)))) (by kernel_rfl) (by kernel_rfl) (by kernel_rfl) (fun _ _ _ h => by cases h.1) (Or.inl ⟨by rfl, ?_⟩) (by assumption) ?_
    rotate_left 1
    (intro w hSw; (try dsimp only at hSw); go_simp; try with_reducible rfl)
    try simp only [Act.put, List.setIfInBounds_toArray, List.set_cons_zero, List.set_cons_succ]
    refine wpAnyH_ready (rs := [1, 7]) (by kernel_rfl) (by simp) (AllReadyH.cons (op_later (op_here)) (fun K hK => ?_) (AllReadyH.cons (op_later (op_later (op_later (op_later (op_later (op_later (op_later (op_here)))))))) (fun K hK => ?_) AllReadyH.nil))
    · go_simp
      refine (KD.num HDa.out 1099511627776 (by omega) H1.out).mono ?_
      rintro e wb ⟨rfl, hb, fb⟩
      have HDb := Lib.hid hb
      clear hb fb HDa
      refine hK.out _ _ (KS.out _ _ HDb.out) (fun hHeld => ?_)
      clear hK K
      try simp only [Act.put, List.setIfInBounds_toArray, List.set_cons_zero, List.set_cons_succ]
      refine wpAnyH_take (i := 2) (v := ?_) (op_later (op_later (op_here))) (by kernel_rfl) (by kernel_rfl) (by kernel_rfl) (fun _ _ _ h => by cases h.1) (Or.inl ⟨by rfl, ?_⟩) (by assumption) ?_
      rotate_left 1
      (intro w hSw; (try dsimp only at hSw); go_simp; try with_reducible rfl)
      try simp only [Act.put, List.setIfInBounds_toArray, List.set_cons_zero, List.set_cons_succ]
      refine wpAnyH_ready (rs := [4, 7]) (by kernel_rfl) (by simp) (AllReadyH.cons (op_later (op_later (op_later (op_later (op_here))))) (fun K hK => ?_) (AllReadyH.cons (op_later (op_later (op_later (op_later (op_later (op_later (op_later (op_here)))))))) (fun K hK => ?_) AllReadyH.nil))
      · go_simp
        refine (KD.num HDb.out 1099511627776 (by omega) H2.out).mono ?_
        rintro e wc ⟨rfl, hc, fc⟩
        have HDc := Lib.hid hc
        clear hc fc HDb
        refine hK.out _ _ (KS.out _ _ HDc.out) (fun hHeld => ?_)
        clear hK K
        try simp only [Act.put, List.setIfInBounds_toArray, List.set_cons_zero, List.set_cons_succ]
        refine wpAnyH_take (i := 5) (v := ?_) (op_later (op_later (op_later (op_later (op_later (op_here)))))) (by kernel_rfl) (by kernel_rfl) (by kernel_rfl) (fun _ _ _ h => by cases h.1) (Or.inl ⟨by rfl, ?_⟩) (by assumption) ?_
        rotate_left 1
        (intro w hSw; (try dsimp only at hSw); go_simp; try with_reducible rfl)
        try simp only [Act.put, List.setIfInBounds_toArray, List.set_cons_zero, List.set_cons_succ]
        refine wpAnyH_take (i := 6) (v := ?_) (op_later (op_later (op_later (op_later (op_later (op_later (op_here))))))) (by kernel_rfl) (by kernel_rfl) (by kernel_rfl) (fun _ _ _ h => by cases h.1) (Or.inl ⟨by rfl, ?_⟩) (by assumption) ?_
        rotate_left 1
        (intro w hSw; (try dsimp only at hSw); go_simp; try with_reducible rfl)
        try simp only [Act.put, List.setIfInBounds_toArray, List.set_cons_zero, List.set_cons_succ]
        refine wpAnyH_ready (rs := [7]) (by kernel_rfl) (by simp) (AllReadyH.cons (op_later (op_later (op_later (op_later (op_later (op_later (op_later (op_here)))))))) (fun K hK => ?_) AllReadyH.nil)
        go_simp
        have HDn := Lib.hid (HDc.out.fresh ((Frm.refl _ (wc)).alloc (.cells #[.int .i64 0, .int .i64 0, .slice none 0 0, .slice none 0 0, .slice none 0 0] 28)))
        have HQ : Hid (SBox g (wc).heap.size snap0 ((wc).alloc (.cells #[.int .i64 0, .int .i64 0, .slice none 0 0, .slice none 0 0, .slice none 0 0] 28))) := Lib.hid ⟨HDc.out.glt, Blk.new _ _ snap0⟩
        clear HDc
        have HDc := HDn
        clear HDn
        refine hK.out _ _ (KS.out _ _ HDc.out) (fun hHeld => ?_)
        clear hK K
        try simp only [Act.put, List.setIfInBounds_toArray, List.set_cons_zero, List.set_cons_succ]
        refine wpAnyH_ready (rs := [8]) (by kernel_rfl) (by simp) (AllReadyH.cons (op_later (op_later (op_later (op_later (op_later (op_later (op_later (op_later (op_here))))))))) (fun K hK => ?_) AllReadyH.nil)
        rw [if_pos (by rfl)]
        refine wp_store_mid _ _ _ rfl _ 0 #[.int .i64 (x1 : Int), .int .i64 (x2 : Int), .slice none 0 0, .slice none 0 0, .slice none 0 0] rfl rfl (HQ.out.2.there rfl) (by kernel_rfl) (by kernel_rfl) ?_
        refine hK.out _ _ (KS.out _ _ (HDc.out.stored HQ.out [.int .i64 (x1 : Int), .int .i64 (x2 : Int), .slice none 0 0, .slice none 0 0, .slice none 0 0] rfl).1) (fun hHeld => ?_)
        clear hK K
        try simp only [Act.put]
        refine wpAnyH_done (by kernel_rfl) ?_ _
        exact ⟨rfl, _, rfl, (HDc.out.stored HQ.out [.int .i64 (x1 : Int), .int .i64 (x2 : Int), .slice none 0 0, .slice none 0 0, .slice none 0 0] rfl).1, ⟨HQ.out.1, (HDc.out.stored HQ.out [.int .i64 (x1 : Int), .int .i64 (x2 : Int), .slice none 0 0, .slice none 0 0, .slice none 0 0] rfl).2⟩⟩
      · go_simp
        have HDn := Lib.hid (HDb.out.fresh ((Frm.refl _ (wb)).alloc (.cells #[.int .i64 0, .int .i64 0, .slice none 0 0, .slice none 0 0, .slice none 0 0] 28)))
        have HQ : Hid (SBox g (wb).heap.size snap0 ((wb).alloc (.cells #[.int .i64 0, .int .i64 0, .slice none 0 0, .slice none 0 0, .slice none 0 0] 28))) := Lib.hid ⟨HDb.out.glt, Blk.new _ _ snap0⟩
        clear HDb
        have HDb := HDn
        clear HDn
        refine hK.out _ _ (KS.out _ _ HDb.out) (fun hHeld => ?_)
        clear hK K
        try simp only [Act.put, List.setIfInBounds_toArray, List.set_cons_zero, List.set_cons_succ]
        refine wpAnyH_ready (rs := [4]) (by kernel_rfl) (by simp) (AllReadyH.cons (op_later (op_later (op_later (op_later (op_here))))) (fun K hK => ?_) AllReadyH.nil)
        go_simp
        refine (KD.num HDb.out 1099511627776 (by omega) H2.out).mono ?_
        rintro e wc ⟨rfl, hc, fc⟩
        have HDc := Lib.hid hc
        have HQn := Lib.hid (HDb.out.boxOn HQ.out fc)
        clear HQ
        have HQ := HQn
        clear HQn
        clear hc fc HDb
        refine hK.out _ _ (KS.out _ _ HDc.out) (fun hHeld => ?_)
        clear hK K
        try simp only [Act.put, List.setIfInBounds_toArray, List.set_cons_zero, List.set_cons_succ]
        refine wpAnyH_take (i := 5) (v := ?_) (op_later (op_later (op_later (op_later (op_later (op_here)))))) (by kernel_rfl) (by kernel_rfl) (by kernel_rfl) (fun _ _ _ h => by cases h.1) (Or.inl ⟨by rfl, ?_⟩) (by assumption) ?_
        rotate_left 1
        (intro w hSw; (try dsimp only at hSw); go_simp; try with_reducible rfl)
        try simp only [Act.put, List.setIfInBounds_toArray, List.set_cons_zero, List.set_cons_succ]
        refine wpAnyH_take (i := 6) (v := ?_) (op_later (op_later (op_later (op_later (op_later (op_later (op_here))))))) (by kernel_rfl) (by kernel_rfl) (by kernel_rfl) (fun _ _ _ h => by cases h.1) (Or.inl ⟨by rfl, ?_⟩) (by assumption) ?_
        rotate_left 1
        (intro w hSw; (try dsimp only at hSw); go_simp; try with_reducible rfl)
        try simp only [Act.put, List.setIfInBounds_toArray, List.set_cons_zero, List.set_cons_succ]
        refine wpAnyH_ready (rs := [8]) (by kernel_rfl) (by simp) (AllReadyH.cons (op_later (op_later (op_later (op_later (op_later (op_later (op_later (op_later (op_here))))))))) (fun K hK => ?_) AllReadyH.nil)
        rw [if_pos (by rfl)]
        refine wp_store_mid _ _ _ rfl _ 0 #[.int .i64 (x1 : Int), .int .i64 (x2 : Int), .slice none 0 0, .slice none 0 0, .slice none 0 0] rfl rfl (HQ.out.2.there rfl) (by kernel_rfl) (by kernel_rfl) ?_
        refine hK.out _ _ (KS.out _ _ (HDc.out.stored HQ.out [.int .i64 (x1 : Int), .int .i64 (x2 : Int), .slice none 0 0, .slice none 0 0, .slice none 0 0] rfl).1) (fun hHeld => ?_)
        clear hK K
        try simp only [Act.put]
        refine wpAnyH_done (by kernel_rfl) ?_ _
        exact ⟨rfl, _, rfl, (HDc.out.stored HQ.out [.int .i64 (x1 : Int), .int .i64 (x2 : Int), .slice none 0 0, .slice none 0 0, .slice none 0 0] rfl).1, ⟨HQ.out.1, (HDc.out.stored HQ.out [.int .i64 (x1 : Int), .int .i64 (x2 : Int), .slice none 0 0, .slice none 0 0, .slice none 0 0] rfl).2⟩⟩
    · go_simp
      have HDn := Lib.hid (HDa.out.fresh ((Frm.refl _ (W4.drew)).alloc (.cells #[.int .i64 0, .int .i64 0, .slice none 0 0, .slice none 0 0, .slice none 0 0] 28)))
      have HQ : Hid (SBox g (W4.drew).heap.size snap0 ((W4.drew).alloc (.cells #[.int .i64 0, .int .i64 0, .slice none 0 0, .slice none 0 0, .slice none 0 0] 28))) := Lib.hid ⟨HDa.out.glt, Blk.new _ _ snap0⟩
      clear HDa
      have HDa := HDn
      clear HDn
      refine hK.out _ _ (KS.out _ _ HDa.out) (fun hHeld => ?_)
      clear hK K
      try simp only [Act.put, List.setIfInBounds_toArray, List.set_cons_zero, List.set_cons_succ]
      refine wpAnyH_ready (rs := [1]) (by kernel_rfl) (by simp) (AllReadyH.cons (op_later (op_here)) (fun K hK => ?_) AllReadyH.nil)
      go_simp
      refine (KD.num HDa.out 1099511627776 (by omega) H1.out).mono ?_
      rintro e wb ⟨rfl, hb, fb⟩
      have HDb := Lib.hid hb
      have HQn := Lib.hid (HDa.out.boxOn HQ.out fb)
      clear HQ
      have HQ := HQn
      clear HQn
      clear hb fb HDa
      refine hK.out _ _ (KS.out _ _ HDb.out) (fun hHeld => ?_)
      clear hK K
      try simp only [Act.put, List.setIfInBounds_toArray, List.set_cons_zero, List.set_cons_succ]
      refine wpAnyH_take (i := 2) (v := ?_) (op_later (op_later (op_here))) (by kernel_rfl) (by kernel_rfl) (by kernel_rfl) (fun _ _ _ h => by cases h.1) (Or.inl ⟨by rfl, ?_⟩) (by assumption) ?_
      rotate_left 1
      (intro w hSw; (try dsimp only at hSw); go_simp; try with_reducible rfl)
      try simp only [Act.put, List.setIfInBounds_toArray, List.set_cons_zero, List.set_cons_succ]
      refine wpAnyH_ready (rs := [4]) (by kernel_rfl) (by simp) (AllReadyH.cons (op_later (op_later (op_later (op_later (op_here))))) (fun K hK => ?_) AllReadyH.nil)
      go_simp
      refine (KD.num HDb.out 1099511627776 (by omega) H2.out).mono ?_
      rintro e wc ⟨rfl, hc, fc⟩
      have HDc := Lib.hid hc
      have HQn := Lib.hid (HDb.out.boxOn HQ.out fc)
      clear HQ
      have HQ := HQn
      clear HQn
      clear hc fc HDb
      refine hK.out _ _ (KS.out _ _ HDc.out) (fun hHeld => ?_)
      clear hK K
      try simp only [Act.put, List.setIfInBounds_toArray, List.set_cons_zero, List.set_cons_succ]
      refine wpAnyH_take (i := 5) (v := ?_) (op_later (op_later (op_later (op_later (op_later (op_here)))))) (by kernel_rfl) (by kernel_rfl) (by kernel_rfl) (fun _ _ _ h => by cases h.1) (Or.inl ⟨by rfl, ?_⟩) (by assumption) ?_
      rotate_left 1
      (intro w hSw; (try dsimp only at hSw); go_simp; try with_reducible rfl)
      try simp only [Act.put, List.setIfInBounds_toArray, List.set_cons_zero, List.set_cons_succ]
      refine wpAnyH_take (i := 6) (v := ?_) (op_later (op_later (op_later (op_later (op_later (op_later (op_here))))))) (by kernel_rfl) (by kernel_rfl) (by kernel_rfl) (fun _ _ _ h => by cases h.1) (Or.inl ⟨by rfl, ?_⟩) (by assumption) ?_
      rotate_left 1
      (intro w hSw; (try dsimp only at hSw); go_simp; try with_reducible rfl)
      try simp only [Act.put, List.setIfInBounds_toArray, List.set_cons_zero, List.set_cons_succ]
      refine wpAnyH_ready (rs := [8]) (by kernel_rfl) (by simp) (AllReadyH.cons (op_later (op_later (op_later (op_later (op_later (op_later (op_later (op_later (op_here))))))))) (fun K hK => ?_) AllReadyH.nil)
      rw [if_pos (by rfl)]
      refine wp_store_mid _ _ _ rfl _ 0 #[.int .i64 (x1 : Int), .int .i64 (x2 : Int), .slice none 0 0, .slice none 0 0, .slice none 0 0] rfl rfl (HQ.out.2.there rfl) (by kernel_rfl) (by kernel_rfl) ?_
      refine hK.out _ _ (KS.out _ _ (HDc.out.stored HQ.out [.int .i64 (x1 : Int), .int .i64 (x2 : Int), .slice none 0 0, .slice none 0 0, .slice none 0 0] rfl).1) (fun hHeld => ?_)
      clear hK K
      try simp only [Act.put]
      refine wpAnyH_done (by kernel_rfl) ?_ _
      exact ⟨rfl, _, rfl, (HDc.out.stored HQ.out [.int .i64 (x1 : Int), .int .i64 (x2 : Int), .slice none 0 0, .slice none 0 0, .slice none 0 0] rfl).1, ⟨HQ.out.1, (HDc.out.stored HQ.out [.int .i64 (x1 : Int), .int .i64 (x2 : Int), .slice none 0 0, .slice none 0 0, .slice none 0 0] rfl).2⟩⟩
  rintro e a W ⟨rfl, q, rfl, hk, hb⟩
  have HDW := Lib.hid hk
  have HBW := Lib.hid hb
  clear hk hb HDa hw1 hw2
  have HGW : Hid (g < W.heap.size) := Lib.hid HDW.out.glt
  have HK5 := Lib.hid (keepNodes_any W p g s2 83 (by decide) HDW.out.c4 HDW.out.rdr)
  unfold ListPost at HK5
  rw [H3.out] at HK5
  go_wp2_with fail
  refine HK5.out.mono ?_
  rintro e w5 ⟨v5, rfl, hs5, hr5, f5⟩
  obtain ⟨AV, cv, rfl, _⟩ := hs5.shape
  have HDr5 : Hid (KD w p g s3 w5) := Lib.hid (HDW.out.read hr5 f5 (by have := (rlist_len s2).2; rw [H3.out] at this; exact this))
  have HBr5 := Lib.hid (HDW.out.boxOn HBW.out f5)
  have y5 : w5.cell? ⟨q, 2, none⟩ = some (.slice none 0 0) := HBr5.out.2.cell 2
  have z5 : w5.frozen? ⟨q, 2, none⟩ = false := HBr5.out.2.frozen 2
  obtain ⟨V5, hV5⟩ : ∃ V, w5.setCell ⟨q, 2, none⟩ (.slice AV vs.length cv) = V := ⟨_, rfl⟩
  have FS5 : Frm (fun j => j = q) w5 V5 := by rw [← hV5]; exact (Frm.refl (fun j => j = q) w5).setCell (p := ⟨q, 2, none⟩) (fun _ => rfl) _
  have HD5 : Hid (KD w p g s3 V5) := Lib.hid (HDr5.out.write HBr5.out.2 HBr5.out.1 FS5)
  have HB5 : Hid (SBox g q #[.int .i64 (x1 : Int), .int .i64 (x2 : Int), .slice AV vs.length cv, .slice none 0 0, .slice none 0 0] V5) := Lib.hid (by
    refine ⟨HBr5.out.1, ?_⟩
    rw [← hV5]
    exact HBr5.out.2.set 2 _)
  have HS5 : Hid (Sl V5 W.heap.size 3 1 (.slice AV vs.length cv) vs.length (ivs vs)) := Lib.hid ((hs5.less (by first | exact Nat.le_refl _ | exact HSZ4.out)).frm FS5 (fun k hk e => by subst e; exact hs5.apart HBr5.out.2 (by decide) hk))
  have HSZ5 : Hid (W.heap.size ≤ V5.heap.size) := Lib.hid (by have a := f5.size; have b := FS5.size; omega)
  clear hs5 hr5 f5 FS5 HDr5 HBr5  HBW
  have HK6 := Lib.hid (keepNodes_any V5 p g s3 83 (by decide) HD5.out.c4 HD5.out.rdr)
  unfold ListPost at HK6
  rw [H4.out] at HK6
  go_wp2_with fail
  refine HK6.out.mono ?_
  rintro e w6 ⟨v6, rfl, hs6, hr6, f6⟩
  obtain ⟨AL, cl, rfl, _⟩ := hs6.shape
  have HDr6 : Hid (KD w p g s4 w6) := Lib.hid (HD5.out.read hr6 f6 (by have := (rlist_len s3).2; rw [H4.out] at this; exact this))
  have HBr6 := Lib.hid (HD5.out.boxOn HB5.out f6)
  have y6 : w6.cell? ⟨q, 3, none⟩ = some (.slice none 0 0) := HBr6.out.2.cell 3
  have z6 : w6.frozen? ⟨q, 3, none⟩ = false := HBr6.out.2.frozen 3
  obtain ⟨V6, hV6⟩ : ∃ V, w6.setCell ⟨q, 3, none⟩ (.slice AL ls.length cl) = V := ⟨_, rfl⟩
  have FS6 : Frm (fun j => j = q) w6 V6 := by rw [← hV6]; exact (Frm.refl (fun j => j = q) w6).setCell (p := ⟨q, 3, none⟩) (fun _ => rfl) _
  have HD6 : Hid (KD w p g s4 V6) := Lib.hid (HDr6.out.write HBr6.out.2 HBr6.out.1 FS6)
  have HB6 : Hid (SBox g q #[.int .i64 (x1 : Int), .int .i64 (x2 : Int), .slice AV vs.length cv, .slice AL ls.length cl, .slice none 0 0] V6) := Lib.hid (by
    refine ⟨HBr6.out.1, ?_⟩
    rw [← hV6]
    exact HBr6.out.2.set 3 _)
  have HS6 : Hid (Sl V6 W.heap.size 3 1 (.slice AL ls.length cl) ls.length (ivs ls)) := Lib.hid ((hs6.less (by first | exact Nat.le_refl _ | exact HSZ5.out)).frm FS6 (fun k hk e => by subst e; exact hs6.apart HBr6.out.2 (by decide) hk))
  have HS5_6 : Hid (Sl V6 W.heap.size 3 1 (.slice AV vs.length cv) vs.length (ivs vs)) := Lib.hid ((HS5.out.frm f6 (fun k hk e => by subst e; have := (HS5.out.lt _ hk).1; have := HGW.out; omega)).frm FS6 (fun k hk e => by subst e; exact (HS5.out.frm f6 (fun k hk e => by subst e; have := (HS5.out.lt _ hk).1; have := HGW.out; omega)).apart HBr6.out.2 (by decide) hk))
  have HSZ6 : Hid (W.heap.size ≤ V6.heap.size) := Lib.hid (by have a := f6.size; have b := FS6.size; have c := HSZ5.out; omega)
  clear hs6 hr6 f6 FS6 HDr6 HBr6 HD5 HB5
  have x7 : V6.cell? ⟨p, 0, none⟩ = some (.pointer (some ⟨g, 0, none⟩)) := KS.out _ _ HD6.out
  have HK7 := Lib.hid (pText V6 g s4 60000 (by omega) (by have := HD6.out.len; omega) HD6.out.rdr)
  unfold PText at HK7
  rw [H5.out] at HK7
  go_wp2_with fail
  refine HK7.out.mono ?_
  rintro e w7 ⟨v7, rfl, hs7, hr7, f7⟩
  obtain ⟨AD, cd, rfl, _⟩ := hs7.shape
  have HDr7 : Hid (KD w p g s5 w7) := Lib.hid (HD6.out.read hr7 f7 (by have := rdt_len 60000 s4; rw [H5.out] at this; exact this))
  have HBr7 := Lib.hid (HD6.out.boxOn HB6.out f7)
  have y7 : w7.cell? ⟨q, 4, none⟩ = some (.slice none 0 0) := HBr7.out.2.cell 4
  have z7 : w7.frozen? ⟨q, 4, none⟩ = false := HBr7.out.2.frozen 4
  obtain ⟨V7, hV7⟩ : ∃ V, w7.setCell ⟨q, 4, none⟩ (.slice AD ds.length cd) = V := ⟨_, rfl⟩
  have FS7 : Frm (fun j => j = q) w7 V7 := by rw [← hV7]; exact (Frm.refl (fun j => j = q) w7).setCell (p := ⟨q, 4, none⟩) (fun _ => rfl) _
  have HD7 : Hid (KD w p g s5 V7) := Lib.hid (HDr7.out.write HBr7.out.2 HBr7.out.1 FS7)
  have HB7 : Hid (SBox g q #[.int .i64 (x1 : Int), .int .i64 (x2 : Int), .slice AV vs.length cv, .slice AL ls.length cl, .slice AD ds.length cd] V7) := Lib.hid (by
    refine ⟨HBr7.out.1, ?_⟩
    rw [← hV7]
    exact HBr7.out.2.set 4 _)
  have HS7 : Hid (Sl V7 W.heap.size 5 1 (.slice AD ds.length cd) ds.length (ds.map bv)) := Lib.hid ((hs7.less (by first | exact Nat.le_refl _ | exact HSZ6.out)).frm FS7 (fun k hk e => by subst e; exact hs7.apart HBr7.out.2 (by decide) hk))
  have HS5_7 : Hid (Sl V7 W.heap.size 3 1 (.slice AV vs.length cv) vs.length (ivs vs)) := Lib.hid ((HS5_6.out.frm f7 (fun k hk e => by subst e; have := (HS5_6.out.lt _ hk).1; have := HGW.out; omega)).frm FS7 (fun k hk e => by subst e; exact (HS5_6.out.frm f7 (fun k hk e => by subst e; have := (HS5_6.out.lt _ hk).1; have := HGW.out; omega)).apart HBr7.out.2 (by decide) hk))
  have HS6_7 : Hid (Sl V7 W.heap.size 3 1 (.slice AL ls.length cl) ls.length (ivs ls)) := Lib.hid ((HS6.out.frm f7 (fun k hk e => by subst e; have := (HS6.out.lt _ hk).1; have := HGW.out; omega)).frm FS7 (fun k hk e => by subst e; exact (HS6.out.frm f7 (fun k hk e => by subst e; have := (HS6.out.lt _ hk).1; have := HGW.out; omega)).apart HBr7.out.2 (by decide) hk))
  have HSZ7 : Hid (W.heap.size ≤ V7.heap.size) := Lib.hid (by have a := f7.size; have b := FS7.size; have c := HSZ6.out; omega)
  clear hs7 hr7 f7 FS7 HDr7 HBr7 HD6 HB6
  have HGW2 := HGW
  have x8 : V7.cell? ⟨p, 0, none⟩ = some (.pointer (some ⟨g, 0, none⟩)) := KS.out _ _ HD7.out
  have HWH := Lib.hid (pWhole V7 g s5 HD7.out.rdr)
  obtain ⟨wh, hwh⟩ : ∃ b, b = wholeS s5 := ⟨_, rfl⟩
  rw [← hwh] at HWH
  have HWW := Lib.hid hwh
  have HSV := Lib.hid (HS5_7.out.rd.more (B' := V7.heap.size) (Nat.le_refl _))
  have HRS : Hid (RdS V7 AV AL AD vs ls ds) := Lib.hid ⟨HS5_7.out.rd, HS6_7.out.rd, HS7.out.rd, by omega, by omega, by omega⟩
  have HKR := Lib.hid (keepRight_any V7 (x1 : Int) (x2 : Int) AV AL AD cv cl cd vs ls ds HRS.out)
  obtain ⟨rs, hrs⟩ : ∃ b, b = rightS (x1 : Int) (x2 : Int) vs ls ds := ⟨_, rfl⟩
  rw [← hrs] at HKR
  have HRR := Lib.hid hrs
  have hqw : w.heap.size < q := by have := HB7.out.1; have := HD7.out.low; omega
  clear hwh hrs HSV HGW2
  have y0 : V7.cell? ⟨q, 0, none⟩ = some (.int .i64 (x1 : Int)) := HB7.out.2.cell 0
  have y1 : V7.cell? ⟨q, 1, none⟩ = some (.int .i64 (x2 : Int)) := HB7.out.2.cell 1
  have y2 : V7.cell? ⟨q, 2, none⟩ = some (.slice AV vs.length cv) := HB7.out.2.cell 2
  have y3 : V7.cell? ⟨q, 3, none⟩ = some (.slice AL ls.length cl) := HB7.out.2.cell 3
  have y4 : V7.cell? ⟨q, 4, none⟩ = some (.slice AD ds.length cd) := HB7.out.2.cell 4
  go_wp2_with fail
  clear hV7 y7 z7
  refine HWH.out.mono ?_
  rintro e w8 ⟨rfl, hw8⟩
  rw [← hw8]
  clear hw8 x8
  cases wh with
  | false =>
    have HN : Hid (decS bs = none) := Lib.hid (by unfold decS; rw [HDS.out]; dsimp only; rw [← HWW.out]; simp)
    clear y0 y1 y2 y3 y4
    have HCI : Hid ((Try.prog.info? 28).map (·.size) = some ([Value.int .i64 0, .int .i64 0, .slice none 0 0, .slice none 0 0, .slice none 0 0]).length) := Lib.hid (by kernel_rfl)
    have HCJ : Hid ((Try.prog.info? 28).map (·.size) = some ([Value.int .i64 0, .int .i64 0, .slice none 0 0, .slice none 0 0, .slice none 0 0]).toArray.size) := Lib.hid (by kernel_rfl)
    have HTH : Hid (V7.there w.heap.size 0 ([Value.int .i64 0, .int .i64 0, .slice none 0 0, .slice none 0 0, .slice none 0 0]).toArray.size) := Lib.hid (by exact HD7.out.res.there rfl)
    have HON : Hid (([Value.int .i64 0, .int .i64 0, .slice none 0 0, .slice none 0 0, .slice none 0 0]).toArray.all (·.oneCell') = true) := Lib.hid (by kernel_rfl)
    go_wp2_with (refine wpList_store_mid rfl 28 (.tmp 2) (.tmp 36) rfl w.heap.size 0 ([Value.int .i64 0, .int .i64 0, .slice none 0 0, .slice none 0 0, .slice none 0 0]).toArray rfl rfl HTH.out HCJ.out HON.out ?_)
    have hra : (V7.setCells w.heap.size 0 ([Value.int .i64 0, .int .i64 0, .slice none 0 0, .slice none 0 0, .slice none 0 0])).rangeAt w.heap.size 0 ([Value.int .i64 0, .int .i64 0, .slice none 0 0, .slice none 0 0, .slice none 0 0]) := World.rangeAt_setCells_same V7 w.heap.size 0 ([Value.int .i64 0, .int .i64 0, .slice none 0 0, .slice none 0 0, .slice none 0 0]) (by have := HTH.out; simpa using this)
    have hld := run_loadVar_mid (P := Try.prog) (V7.setCells w.heap.size 0 ([Value.int .i64 0, .int .i64 0, .slice none 0 0, .slice none 0 0, .slice none 0 0])) w.heap.size 0 28 ([Value.int .i64 0, .int .i64 0, .slice none 0 0, .slice none 0 0, .slice none 0 0]) _ hra Try.underlying28 rfl HCI.out
    have HFZ : Fresh w (V7.setCells w.heap.size 0 ([Value.int .i64 0, .int .i64 0, .slice none 0 0, .slice none 0 0, .slice none 0 0])) := (HD7.out.frm).trans' (frm_setCells w.heap.size ([Value.int .i64 0, .int .i64 0, .slice none 0 0, .slice none 0 0, .slice none 0 0]) 0 V7) (fun k hk e => by omega)
    refine bodyPost_ret (v := .tuple #[.agg [Value.int .i64 0, .int .i64 0, .slice none 0 0, .slice none 0 0, .slice none 0 0].toArray, .int .i64 6]) ?_ rfl (kd_no HN.out rfl HFZ)
    rw [results_cell_tmp Try.results58]
    show (((asAddr (.pointer (some ⟨w.heap.size, 0, none⟩))).run Try.prog (V7.setCells w.heap.size 0 ([Value.int .i64 0, .int .i64 0, .slice none 0 0, .slice none 0 0, .slice none 0 0]))).andThen fun a w₁ => ((loadVar 28 a).run Try.prog w₁).andThen fun v w₂ => Result.ok (Value.tuple #[v, Value.int .i64 6]) w₂) = _
    simp only [asAddr, Sem.run_pure, Result.andThen_ok, hld]
  | true =>
    go_wp2_with fail
    refine HKR.out.mono ?_
    rintro e w9 ⟨rfl, f9⟩
    have HD9 := Lib.hid (HD7.out.fresh f9)
    have HBX := Lib.hid (show SBox g q #[.int .i64 (x1 : Int), .int .i64 (x2 : Int), .slice AV vs.length cv, .slice AL ls.length cl, .slice AD ds.length cd] w9 from ⟨HB7.out.1, HB7.out.2.frm f9 (fun f => f)⟩)
    have HS59 := Lib.hid (HS5_7.out.fresh f9)
    have HS69 := Lib.hid (HS6_7.out.fresh f9)
    have HS79 := Lib.hid (HS7.out.fresh f9)
    have hwW : w.heap.size < W.heap.size := by have := HGW.out; omega
    clear f9 y0 y1 y2 y3 y4
    cases rs with
    | false =>
      have HN : Hid (decS bs = none) := Lib.hid (by unfold decS; rw [HDS.out]; dsimp only; rw [← HRR.out]; simp)
      have HCI : Hid ((Try.prog.info? 28).map (·.size) = some ([Value.int .i64 0, .int .i64 0, .slice none 0 0, .slice none 0 0, .slice none 0 0]).length) := Lib.hid (by kernel_rfl)
      have HCJ : Hid ((Try.prog.info? 28).map (·.size) = some ([Value.int .i64 0, .int .i64 0, .slice none 0 0, .slice none 0 0, .slice none 0 0]).toArray.size) := Lib.hid (by kernel_rfl)
      have HTH : Hid (w9.there w.heap.size 0 ([Value.int .i64 0, .int .i64 0, .slice none 0 0, .slice none 0 0, .slice none 0 0]).toArray.size) := Lib.hid (by exact HD9.out.res.there rfl)
      have HON : Hid (([Value.int .i64 0, .int .i64 0, .slice none 0 0, .slice none 0 0, .slice none 0 0]).toArray.all (·.oneCell') = true) := Lib.hid (by kernel_rfl)
      go_wp2_with (refine wpList_store_mid rfl 28 (.tmp 2) (.tmp 36) rfl w.heap.size 0 ([Value.int .i64 0, .int .i64 0, .slice none 0 0, .slice none 0 0, .slice none 0 0]).toArray rfl rfl HTH.out HCJ.out HON.out ?_)
      have hra : (w9.setCells w.heap.size 0 ([Value.int .i64 0, .int .i64 0, .slice none 0 0, .slice none 0 0, .slice none 0 0])).rangeAt w.heap.size 0 ([Value.int .i64 0, .int .i64 0, .slice none 0 0, .slice none 0 0, .slice none 0 0]) := World.rangeAt_setCells_same w9 w.heap.size 0 ([Value.int .i64 0, .int .i64 0, .slice none 0 0, .slice none 0 0, .slice none 0 0]) (by have := HTH.out; simpa using this)
      have hld := run_loadVar_mid (P := Try.prog) (w9.setCells w.heap.size 0 ([Value.int .i64 0, .int .i64 0, .slice none 0 0, .slice none 0 0, .slice none 0 0])) w.heap.size 0 28 ([Value.int .i64 0, .int .i64 0, .slice none 0 0, .slice none 0 0, .slice none 0 0]) _ hra Try.underlying28 rfl HCI.out
      have HFZ : Fresh w (w9.setCells w.heap.size 0 ([Value.int .i64 0, .int .i64 0, .slice none 0 0, .slice none 0 0, .slice none 0 0])) := (HD9.out.frm).trans' (frm_setCells w.heap.size ([Value.int .i64 0, .int .i64 0, .slice none 0 0, .slice none 0 0, .slice none 0 0]) 0 w9) (fun k hk e => by omega)
      refine bodyPost_ret (v := .tuple #[.agg [Value.int .i64 0, .int .i64 0, .slice none 0 0, .slice none 0 0, .slice none 0 0].toArray, .int .i64 6]) ?_ rfl (kd_no HN.out rfl HFZ)
      rw [results_cell_tmp Try.results58]
      show (((asAddr (.pointer (some ⟨w.heap.size, 0, none⟩))).run Try.prog (w9.setCells w.heap.size 0 ([Value.int .i64 0, .int .i64 0, .slice none 0 0, .slice none 0 0, .slice none 0 0]))).andThen fun a w₁ => ((loadVar 28 a).run Try.prog w₁).andThen fun v w₂ => Result.ok (Value.tuple #[v, Value.int .i64 6]) w₂) = _
      simp only [asAddr, Sem.run_pure, Result.andThen_ok, hld]
    | true =>
      have HY : Hid (decS bs = some ⟨x1, x2, vs, ls, ds⟩) := Lib.hid (by unfold decS; rw [HDS.out]; dsimp only; rw [← HRR.out, ← HWW.out]; simp)
      obtain ⟨cs, hcs⟩ : ∃ cs : List Value, cs = [Value.int .i64 (x1 : Int), .int .i64 (x2 : Int), .slice AV vs.length cv, .slice AL ls.length cl, .slice AD ds.length cd] := ⟨_, rfl⟩
      have HCI : Hid ((Try.prog.info? 28).map (·.size) = some (cs).length) := Lib.hid (by rw [hcs]; kernel_rfl)
      have HCJ : Hid ((Try.prog.info? 28).map (·.size) = some (cs).toArray.size) := Lib.hid (by rw [hcs]; kernel_rfl)
      have HTH : Hid (w9.there w.heap.size 0 (cs).toArray.size) := Lib.hid (by rw [hcs]; exact HD9.out.res.there rfl)
      have HON : Hid ((cs).toArray.all (·.oneCell') = true) := Lib.hid (by rw [hcs]; kernel_rfl)
      have HCL : Hid (w9.rangeAt q 0 cs) := Lib.hid (by rw [hcs]; intro j v hv; rw [Nat.zero_add, HBX.out.2.cell j]; simpa using hv)
      have HCS := Lib.hid hcs
      clear hcs
      go_wp2_with (first | (with_reducible refine wpList_load_mid rfl 28 (.tmp 6) rfl q 0 rfl cs _ HCL.out Try.underlying28 rfl HCI.out ?_) | (with_reducible refine wpList_store_mid rfl 28 (.tmp 2) (.tmp 37) rfl w.heap.size 0 cs.toArray rfl rfl HTH.out HCJ.out HON.out ?_))
      have hra : (w9.setCells w.heap.size 0 (cs)).rangeAt w.heap.size 0 (cs) := World.rangeAt_setCells_same w9 w.heap.size 0 (cs) (by have := HTH.out; simpa using this)
      have hld := run_loadVar_mid (P := Try.prog) (w9.setCells w.heap.size 0 (cs)) w.heap.size 0 28 (cs) _ hra Try.underlying28 rfl HCI.out
      have HFZ : Fresh w (w9.setCells w.heap.size 0 (cs)) := (HD9.out.frm).trans' (frm_setCells w.heap.size (cs) 0 w9) (fun k hk e => by omega)
      refine bodyPost_ret (v := .tuple #[.agg cs.toArray, .int .i64 0]) ?_ rfl (kd_yes HY.out (by rw [HCS.out]) (rdS_of HS59.out HS69.out HS79.out (frm_setCells w.heap.size cs 0 w9) hwW (show vs.length ≤ 1000 by omega) (show ls.length ≤ 1000 by omega) (show ds.length ≤ 100000 by omega)) HFZ)
      rw [results_cell_tmp Try.results58]
      show (((asAddr (.pointer (some ⟨w.heap.size, 0, none⟩))).run Try.prog (w9.setCells w.heap.size 0 (cs))).andThen fun a w₁ => ((loadVar 28 a).run Try.prog w₁).andThen fun v w₂ => Result.ok (Value.tuple #[v, Value.int .i64 0]) w₂) = _
      simp only [asAddr, Sem.run_pure, Result.andThen_ok, hld]
end Go.Proofs.Ytlceembcehokoaa
namespace Go.Proofs.Ytlceembcehokoaa
open Go.RowKit ReadM
set_option linter.unusedVariables false
set_option maxRecDepth 100000

/-- while a snapshot is read -/
structure DD (w : World) (g : Nat) (s : RS) (wk : World) : Prop where
  rdr : DocAt wk g g s
  low : w.heap.size < g
  res : Blk wk w.heap.size 28 snap0
  frm : Fresh w wk
theorem DD.fresh {w wk w' : World} {g : Nat} {s : RS} (h : DD w g s wk) (F : Fresh wk w') : DD w g s w' :=
  ⟨h.rdr.fresh F, h.low, h.res.frm F (fun f => f), h.frm.trans F⟩
theorem DD.read {w wk w' : World} {g : Nat} {s t : RS} (h : DD w g s wk) (hr : DocAt w' g g t) (F : Frm (fun k => k = g) wk w') : DD w g t w' := by
  obtain ⟨_, hb⟩ := h.rdr.blk
  exact ⟨hr, h.low, h.res.frm F (h.res.apart hb (by decide)), h.frm.trans' F (fun k hk e => by have := h.low; omega)⟩
theorem DD.write {w wk w' : World} {g q : Nat} {s : RS} (h : DD w g s wk) (hlt : g < q) (F : Frm (fun j => j = q) wk w') : DD w g s w' := by
  have hlow := h.low
  exact ⟨h.rdr.frm F (by omega) (fun k hk e => by omega), h.low, h.res.frm F (by omega), h.frm.trans' F (fun k hk e => by omega)⟩
theorem DD.num {w wk : World} {g : Nat} {s : RS} (h : DD w g s wk) (most : Nat) {x : Nat} {t : RS} (hx : rdn most s = (x, t)) :
    Calls Try.prog 61 #[.pointer (some ⟨g, 0, none⟩), .int .u64 (most : Int)] wk fun e w' => e = .returned (.int .u64 (x : Int)) ∧ DD w g t w' ∧ Frm (fun k => k = g) wk w' := by
  refine (dNum wk g g s most h.rdr).mono ?_
  rintro e w' ⟨h1, h2, h3⟩
  rw [hx] at h1 h2
  exact ⟨h1, h.read h2 h3, h3⟩
theorem DD.boxOn {w wk w' : World} {g q : Nat} {s : RS} {cs : Array Value} (h : DD w g s wk) (hq : SBox g q cs wk) (F : Frm (fun k => k = g) wk w') : SBox g q cs w' := by
  obtain ⟨_, hb⟩ := h.rdr.blk
  exact ⟨hq.1, hq.2.frm F (hq.2.apart hb (by decide))⟩

set_option maxHeartbeats 16000000 in
theorem refDecodeS_any (w : World) (A : Option Addr) (cap : Nat) (bs : List UInt8) (hA : Rd w w.heap.size A (bs.map bv)) (hl : bs.length ≤ 1000000) (hc : bs.length ≤ cap) (hm : cap ≤ maxLen) :
    Calls Try.prog 65 #[.slice A bs.length cap] w fun e w' => KDPost w (decS bs) e w' := by
  obtain ⟨W0, hW0⟩ : ∃ W0, w.alloc (.cells #[.int .i64 0, .int .i64 0, .slice none 0 0, .slice none 0 0, .slice none 0 0] 28) = W0 := ⟨_, rfl⟩
  have F0 : Fresh w W0 := by rw [← hW0]; exact ((Frm.refl _ w).alloc _)
  have b0 : Blk W0 w.heap.size 28 snap0 := by rw [← hW0]; exact (Blk.new w _ snap0)
  obtain ⟨g, hg⟩ : ∃ g, g = W0.heap.size := ⟨_, rfl⟩
  obtain ⟨W1, hW1⟩ : ∃ W1, W0.alloc (.cells #[.slice A bs.length cap, .int .i64 0, .bool false] 93) = W1 := ⟨_, rfl⟩
  have F1 : Fresh W0 W1 := by rw [← hW1]; exact ((Frm.refl _ W0).alloc _)
  have HD1 : Hid (DD w g (bs, false) W1) := Lib.hid (by
    have hgs : w.heap.size < W0.heap.size := b0.lt
    refine ⟨⟨bs, 0, ⟨A, cap, ?_, ?_, hc, hm, Nat.le_refl _⟩, Nat.zero_le _, by omega, fun _ => by simp⟩, by omega, b0.frm F1 (fun f => f), F0.trans F1⟩
    · rw [← hW1, hg]
      exact Blk.new W0 _ _
    · have h1 := (hA.fresh (Nat.le_refl _) (F0.trans F1)).more (B' := g) (by omega)
      exact h1)
  have HGS : Hid (w.heap.size < g) := Lib.hid (by rw [hg]; exact b0.lt)
  obtain ⟨⟨x1, s1⟩, h1⟩ : ∃ y, rdn 1099511627776 (bs, false) = y := ⟨_, rfl⟩
  obtain ⟨⟨x2, s2⟩, h2⟩ : ∃ y, rdn 1099511627776 s1 = y := ⟨_, rfl⟩
  obtain ⟨⟨vs, s3⟩, h3⟩ : ∃ y, rlist s2 = y := ⟨_, rfl⟩
  obtain ⟨⟨ls, s4⟩, h4⟩ : ∃ y, rlist s3 = y := ⟨_, rfl⟩
  obtain ⟨⟨ds, s5⟩, h5⟩ : ∃ y, rdt 60000 s4 = y := ⟨_, rfl⟩
  have HDS : Hid (readS (bs, false) = (⟨x1, x2, vs, ls, ds⟩, s5)) := Lib.hid (by
    unfold readS
    dsimp only
    rw [h1]
    dsimp only
    rw [h2]
    dsimp only
    rw [h3]
    dsimp only
    rw [h4]
    dsimp only
    rw [h5])
  have H1 := Lib.hid h1
  have H2 := Lib.hid h2
  have H3 := Lib.hid h3
  have H4 := Lib.hid h4
  have H5 := Lib.hid h5
  have hx1 : x1 ≤ 1099511627776 := by have := rdn_le 1099511627776 (bs, false); rw [h1] at this; exact this
  have hx2 : x2 ≤ 1099511627776 := by have := rdn_le 1099511627776 s1; rw [h2] at this; exact this
  have hvl : vs.length ≤ 15 := by have := (rlist_len s2).1; rw [h3] at this; exact this
  have hll : ls.length ≤ 15 := by have := (rlist_len s3).1; rw [h4] at this; exact this
  have hdl : ds.length ≤ 60000 := by have := rdt_le (most := 60000) (by omega) s4; rw [h5] at this; dsimp only at this; omega
  have hw1 : IntKind.i64.wrap (x1 : Int) = (x1 : Int) := IntWalk.i64_in _ (by omega)
  have hw2 : IntKind.i64.wrap (x2 : Int) = (x2 : Int) := IntWalk.i64_in _ (by omega)
  clear hA F0 F1 b0 h1 h2 h3 h4 h5
  go_enter Try.func65, Try.ntmps65
  go_upto_region 2 with fail
  first | rw [hW0] | skip
  rw [← hg]
  first | rw [hW1] | skip
  clear hW0 hW1 hg
  go_wp2_with fail
  refine (HD1.out.num 1099511627776 H1.out).mono ?_
  rintro e wa ⟨rfl, ha, _⟩
  have HDa := Lib.hid ha
  clear ha
  go_wp2_with fail
  refine (HDa.out.num 1099511627776 H2.out).mono ?_
  rintro e wb ⟨rfl, hb, _⟩
  have HDb := Lib.hid hb
  obtain ⟨W5, hW5⟩ : ∃ W, wb.alloc (.cells #[.int .i64 0, .int .i64 0, .slice none 0 0, .slice none 0 0, .slice none 0 0] 28) = W := ⟨_, rfl⟩
  obtain ⟨q, hq⟩ : ∃ q, wb.heap.size = q := ⟨_, rfl⟩
  have HD5 : Hid (DD w g s2 W5) := Lib.hid (by rw [← hW5]; exact hb.fresh ((Frm.refl _ wb).alloc _))
  have HQ5 : Hid (SBox g q snap0 W5) := Lib.hid ⟨by rw [← hq]; exact hb.rdr.lt, by rw [← hW5, ← hq]; exact Blk.new wb _ _⟩
  have HTH5 : Hid (W5.there q 0 (#[.int .i64 (x1 : Int), .int .i64 (x2 : Int), .slice none 0 0, .slice none 0 0, .slice none 0 0] : Array Value).size) := Lib.hid (HQ5.out.2.there rfl)
  have HI5 : Hid ((Try.prog.info? 28).map (·.size) = some (#[.int .i64 (x1 : Int), .int .i64 (x2 : Int), .slice none 0 0, .slice none 0 0, .slice none 0 0] : Array Value).size) := Lib.hid (by kernel_rfl)
  have HO5 : Hid ((#[.int .i64 (x1 : Int), .int .i64 (x2 : Int), .slice none 0 0, .slice none 0 0, .slice none 0 0] : Array Value).all (·.oneCell') = true) := Lib.hid (by kernel_rfl)
  obtain ⟨W, hW⟩ : ∃ W, W5.setCells q 0 (#[.int .i64 (x1 : Int), .int .i64 (x2 : Int), .slice none 0 0, .slice none 0 0, .slice none 0 0] : Array Value).toList = W := ⟨_, rfl⟩
  have FW : Frm (fun j => j = q) W5 W := by
    have := frm_setCells q (#[.int .i64 (x1 : Int), .int .i64 (x2 : Int), .slice none 0 0, .slice none 0 0, .slice none 0 0] : Array Value).toList 0 W5
    have e : (fun k => q = k) = (fun k => k = q) := by funext k; exact propext eq_comm
    rw [e, hW] at this
    exact this
  have HDW : Hid (DD w g s2 W) := Lib.hid (HD5.out.write HQ5.out.1 FW)
  have HBW : Hid (SBox g q #[.int .i64 (x1 : Int), .int .i64 (x2 : Int), .slice none 0 0, .slice none 0 0, .slice none 0 0] W) := Lib.hid ⟨HQ5.out.1, by rw [← hW]; exact blk_all HQ5.out.2 _ rfl⟩
  have HGW : Hid (g < W.heap.size) := Lib.hid HDW.out.rdr.lt
  clear hb HD1 HDa FW
  go_wp2_with (first | (with_reducible refine wpList_store_mid rfl 28 (.tmp 5) (.tmp 17) rfl q 0 #[.int .i64 (x1 : Int), .int .i64 (x2 : Int), .slice none 0 0, .slice none 0 0, .slice none 0 0] rfl rfl HTH5.out HI5.out HO5.out ?_) | (rw [hW5, hq]; with_reducible refine wpList_store_mid rfl 28 (.tmp 5) (.tmp 17) rfl q 0 #[.int .i64 (x1 : Int), .int .i64 (x2 : Int), .slice none 0 0, .slice none 0 0, .slice none 0 0] rfl rfl HTH5.out HI5.out HO5.out ?_) | (rw [hq, hW5]; with_reducible refine wpList_store_mid rfl 28 (.tmp 5) (.tmp 17) rfl q 0 #[.int .i64 (x1 : Int), .int .i64 (x2 : Int), .slice none 0 0, .slice none 0 0, .slice none 0 0] rfl rfl HTH5.out HI5.out HO5.out ?_) | (rw [hW5]; with_reducible refine wpList_store_mid rfl 28 (.tmp 5) (.tmp 17) rfl q 0 #[.int .i64 (x1 : Int), .int .i64 (x2 : Int), .slice none 0 0, .slice none 0 0, .slice none 0 0] rfl rfl HTH5.out HI5.out HO5.out ?_) | (rw [hq]; with_reducible refine wpList_store_mid rfl 28 (.tmp 5) (.tmp 17) rfl q 0 #[.int .i64 (x1 : Int), .int .i64 (x2 : Int), .slice none 0 0, .slice none 0 0, .slice none 0 0] rfl rfl HTH5.out HI5.out HO5.out ?_))
  first | rw [hW] | skip
  clear hW hW5 hq hw1 hw2 HDb
  have HK5 := Lib.hid (refList_any W g g s2 HDW.out.rdr)
  unfold ListPost at HK5
  rw [H3.out] at HK5
  go_wp2_with fail
  refine HK5.out.mono ?_
  rintro e w5 ⟨v5, rfl, hs5, hr5, f5⟩
  obtain ⟨AV, cv, rfl, _⟩ := hs5.shape
  have HDr5 : Hid (DD w g s3 w5) := Lib.hid (HDW.out.read hr5 f5)
  have HBr5 := Lib.hid (HDW.out.boxOn HBW.out f5)
  have y5 : w5.cell? ⟨q, 2, none⟩ = some (.slice none 0 0) := HBr5.out.2.cell 2
  have z5 : w5.frozen? ⟨q, 2, none⟩ = false := HBr5.out.2.frozen 2
  obtain ⟨V5, hV5⟩ : ∃ V, w5.setCell ⟨q, 2, none⟩ (.slice AV vs.length cv) = V := ⟨_, rfl⟩
  have FS5 : Frm (fun j => j = q) w5 V5 := by rw [← hV5]; exact (Frm.refl (fun j => j = q) w5).setCell (p := ⟨q, 2, none⟩) (fun _ => rfl) _
  have HD5 : Hid (DD w g s3 V5) := Lib.hid (HDr5.out.write HBr5.out.1 FS5)
  have HB5 : Hid (SBox g q #[.int .i64 (x1 : Int), .int .i64 (x2 : Int), .slice AV vs.length cv, .slice none 0 0, .slice none 0 0] V5) := Lib.hid (by
    refine ⟨HBr5.out.1, ?_⟩
    rw [← hV5]
    exact HBr5.out.2.set 2 _)
  have HS5 : Hid (Sl V5 W.heap.size 3 1 (.slice AV vs.length cv) vs.length (ivs vs)) := Lib.hid ((hs5.less (by first | exact Nat.le_refl _ | exact HSZ4.out)).frm FS5 (fun k hk e => by subst e; exact hs5.apart HBr5.out.2 (by decide) hk))
  have HSZ5 : Hid (W.heap.size ≤ V5.heap.size) := Lib.hid (by have a := f5.size; have b := FS5.size; omega)
  clear hs5 hr5 f5 FS5 HDr5 HBr5  HBW
  have HK6 := Lib.hid (refList_any V5 g g s3 HD5.out.rdr)
  unfold ListPost at HK6
  rw [H4.out] at HK6
  go_wp2_with fail
  refine HK6.out.mono ?_
  rintro e w6 ⟨v6, rfl, hs6, hr6, f6⟩
  obtain ⟨AL, cl, rfl, _⟩ := hs6.shape
  have HDr6 : Hid (DD w g s4 w6) := Lib.hid (HD5.out.read hr6 f6)
  have HBr6 := Lib.hid (HD5.out.boxOn HB5.out f6)
  have y6 : w6.cell? ⟨q, 3, none⟩ = some (.slice none 0 0) := HBr6.out.2.cell 3
  have z6 : w6.frozen? ⟨q, 3, none⟩ = false := HBr6.out.2.frozen 3
  obtain ⟨V6, hV6⟩ : ∃ V, w6.setCell ⟨q, 3, none⟩ (.slice AL ls.length cl) = V := ⟨_, rfl⟩
  have FS6 : Frm (fun j => j = q) w6 V6 := by rw [← hV6]; exact (Frm.refl (fun j => j = q) w6).setCell (p := ⟨q, 3, none⟩) (fun _ => rfl) _
  have HD6 : Hid (DD w g s4 V6) := Lib.hid (HDr6.out.write HBr6.out.1 FS6)
  have HB6 : Hid (SBox g q #[.int .i64 (x1 : Int), .int .i64 (x2 : Int), .slice AV vs.length cv, .slice AL ls.length cl, .slice none 0 0] V6) := Lib.hid (by
    refine ⟨HBr6.out.1, ?_⟩
    rw [← hV6]
    exact HBr6.out.2.set 3 _)
  have HS6 : Hid (Sl V6 W.heap.size 3 1 (.slice AL ls.length cl) ls.length (ivs ls)) := Lib.hid ((hs6.less (by first | exact Nat.le_refl _ | exact HSZ5.out)).frm FS6 (fun k hk e => by subst e; exact hs6.apart HBr6.out.2 (by decide) hk))
  have HS5_6 : Hid (Sl V6 W.heap.size 3 1 (.slice AV vs.length cv) vs.length (ivs vs)) := Lib.hid ((HS5.out.frm f6 (fun k hk e => by subst e; have := (HS5.out.lt _ hk).1; have := HGW.out; omega)).frm FS6 (fun k hk e => by subst e; exact (HS5.out.frm f6 (fun k hk e => by subst e; have := (HS5.out.lt _ hk).1; have := HGW.out; omega)).apart HBr6.out.2 (by decide) hk))
  have HSZ6 : Hid (W.heap.size ≤ V6.heap.size) := Lib.hid (by have a := f6.size; have b := FS6.size; have c := HSZ5.out; omega)
  clear hs6 hr6 f6 FS6 HDr6 HBr6 HD5 HB5
  have HK7 := Lib.hid (dText V6 g g s4 60000 (by omega) HD6.out.rdr)
  unfold DText at HK7
  rw [H5.out] at HK7
  go_wp2_with fail
  refine HK7.out.mono ?_
  rintro e w7 ⟨v7, rfl, hs7, hr7, f7⟩
  obtain ⟨AD, cd, rfl, _⟩ := hs7.shape
  have HDr7 : Hid (DD w g s5 w7) := Lib.hid (HD6.out.read hr7 f7)
  have HBr7 := Lib.hid (HD6.out.boxOn HB6.out f7)
  have y7 : w7.cell? ⟨q, 4, none⟩ = some (.slice none 0 0) := HBr7.out.2.cell 4
  have z7 : w7.frozen? ⟨q, 4, none⟩ = false := HBr7.out.2.frozen 4
  obtain ⟨V7, hV7⟩ : ∃ V, w7.setCell ⟨q, 4, none⟩ (.slice AD ds.length cd) = V := ⟨_, rfl⟩
  have FS7 : Frm (fun j => j = q) w7 V7 := by rw [← hV7]; exact (Frm.refl (fun j => j = q) w7).setCell (p := ⟨q, 4, none⟩) (fun _ => rfl) _
  have HD7 : Hid (DD w g s5 V7) := Lib.hid (HDr7.out.write HBr7.out.1 FS7)
  have HB7 : Hid (SBox g q #[.int .i64 (x1 : Int), .int .i64 (x2 : Int), .slice AV vs.length cv, .slice AL ls.length cl, .slice AD ds.length cd] V7) := Lib.hid (by
    refine ⟨HBr7.out.1, ?_⟩
    rw [← hV7]
    exact HBr7.out.2.set 4 _)
  have HS7 : Hid (Sl V7 W.heap.size 5 1 (.slice AD ds.length cd) ds.length (ds.map bv)) := Lib.hid ((hs7.less (by first | exact Nat.le_refl _ | exact HSZ6.out)).frm FS7 (fun k hk e => by subst e; exact hs7.apart HBr7.out.2 (by decide) hk))
  have HS5_7 : Hid (Sl V7 W.heap.size 3 1 (.slice AV vs.length cv) vs.length (ivs vs)) := Lib.hid ((HS5_6.out.frm f7 (fun k hk e => by subst e; have := (HS5_6.out.lt _ hk).1; have := HGW.out; omega)).frm FS7 (fun k hk e => by subst e; exact (HS5_6.out.frm f7 (fun k hk e => by subst e; have := (HS5_6.out.lt _ hk).1; have := HGW.out; omega)).apart HBr7.out.2 (by decide) hk))
  have HS6_7 : Hid (Sl V7 W.heap.size 3 1 (.slice AL ls.length cl) ls.length (ivs ls)) := Lib.hid ((HS6.out.frm f7 (fun k hk e => by subst e; have := (HS6.out.lt _ hk).1; have := HGW.out; omega)).frm FS7 (fun k hk e => by subst e; exact (HS6.out.frm f7 (fun k hk e => by subst e; have := (HS6.out.lt _ hk).1; have := HGW.out; omega)).apart HBr7.out.2 (by decide) hk))
  have HSZ7 : Hid (W.heap.size ≤ V7.heap.size) := Lib.hid (by have a := f7.size; have b := FS7.size; have c := HSZ6.out; omega)
  clear hs7 hr7 f7 FS7 HDr7 HBr7 HD6 HB6
  have HWH := Lib.hid (dWhole V7 g g s5 HD7.out.rdr)
  obtain ⟨wh, hwh⟩ : ∃ b, b = wholeS s5 := ⟨_, rfl⟩
  rw [← hwh] at HWH
  have HWW := Lib.hid hwh
  obtain ⟨rs, hrs⟩ : ∃ b, b = rightS (x1 : Int) (x2 : Int) vs ls ds := ⟨_, rfl⟩
  have HRR := Lib.hid hrs
  have hqw : w.heap.size < q := by have := HB7.out.1; have := HD7.out.low; omega
  clear hwh hrs
  go_wp2_with fail
  clear hV7 y7 z7
  refine HWH.out.mono ?_
  rintro e w8 ⟨rfl, nn, hw8⟩
  have f8 : Fresh V7 w8 := by rw [hw8]; exact (Frm.refl _ V7).drewN nn
  have HS58 := Lib.hid (HS5_7.out.fresh f8)
  have HS68 := Lib.hid (HS6_7.out.fresh f8)
  have HS78 := Lib.hid (HS7.out.fresh f8)
  have HD8 := Lib.hid (HD7.out.fresh f8)
  have HB8 := Lib.hid (show SBox g q #[.int .i64 (x1 : Int), .int .i64 (x2 : Int), .slice AV vs.length cv, .slice AL ls.length cl, .slice AD ds.length cd] w8 from ⟨HB7.out.1, HB7.out.2.frm f8 (fun f => f)⟩)
  have HKR := Lib.hid (refRightSnap_any w8 (x1 : Int) (x2 : Int) AV AL AD cv cl cd vs ls ds ⟨HS58.out.rd, HS68.out.rd, HS78.out.rd, by omega, by omega, by omega⟩)
  rw [← HRR.out] at HKR
  clear hw8 f8
  have y0 : w8.cell? ⟨q, 0, none⟩ = some (.int .i64 (x1 : Int)) := HB8.out.2.cell 0
  have y1 : w8.cell? ⟨q, 1, none⟩ = some (.int .i64 (x2 : Int)) := HB8.out.2.cell 1
  have y2 : w8.cell? ⟨q, 2, none⟩ = some (.slice AV vs.length cv) := HB8.out.2.cell 2
  have y3 : w8.cell? ⟨q, 3, none⟩ = some (.slice AL ls.length cl) := HB8.out.2.cell 3
  have y4 : w8.cell? ⟨q, 4, none⟩ = some (.slice AD ds.length cd) := HB8.out.2.cell 4
  go_wp2_with fail
  refine HKR.out.mono ?_
  rintro e w9 ⟨rfl, f9⟩
  have HD9 := Lib.hid (HD8.out.fresh f9)
  have HBX := Lib.hid (show SBox g q #[.int .i64 (x1 : Int), .int .i64 (x2 : Int), .slice AV vs.length cv, .slice AL ls.length cl, .slice AD ds.length cd] w9 from ⟨HB8.out.1, HB8.out.2.frm f9 (fun f => f)⟩)
  have HS59 := Lib.hid (HS58.out.fresh f9)
  have HS69 := Lib.hid (HS68.out.fresh f9)
  have HS79 := Lib.hid (HS78.out.fresh f9)
  have hwW : w.heap.size < W.heap.size := by have := HGW.out; have := HGS.out; omega
  clear f9 y0 y1 y2 y3 y4
  cases wh with
  | false =>
    have HN : Hid (decS bs = none) := Lib.hid (by unfold decS; rw [HDS.out]; dsimp only; rw [← HWW.out]; simp)
    have HCI : Hid ((Try.prog.info? 28).map (·.size) = some ([Value.int .i64 0, .int .i64 0, .slice none 0 0, .slice none 0 0, .slice none 0 0]).length) := Lib.hid (by kernel_rfl)
    have HCJ : Hid ((Try.prog.info? 28).map (·.size) = some ([Value.int .i64 0, .int .i64 0, .slice none 0 0, .slice none 0 0, .slice none 0 0]).toArray.size) := Lib.hid (by kernel_rfl)
    have HTH : Hid (w9.there w.heap.size 0 ([Value.int .i64 0, .int .i64 0, .slice none 0 0, .slice none 0 0, .slice none 0 0]).toArray.size) := Lib.hid (by exact HD9.out.res.there rfl)
    have HON : Hid (([Value.int .i64 0, .int .i64 0, .slice none 0 0, .slice none 0 0, .slice none 0 0]).toArray.all (·.oneCell') = true) := Lib.hid (by kernel_rfl)
    go_wp2_with (refine wpList_store_mid rfl 28 (.tmp 2) (.tmp 39) rfl w.heap.size 0 ([Value.int .i64 0, .int .i64 0, .slice none 0 0, .slice none 0 0, .slice none 0 0]).toArray rfl rfl HTH.out HCJ.out HON.out ?_)
    have hra : (w9.setCells w.heap.size 0 ([Value.int .i64 0, .int .i64 0, .slice none 0 0, .slice none 0 0, .slice none 0 0])).rangeAt w.heap.size 0 ([Value.int .i64 0, .int .i64 0, .slice none 0 0, .slice none 0 0, .slice none 0 0]) := World.rangeAt_setCells_same w9 w.heap.size 0 ([Value.int .i64 0, .int .i64 0, .slice none 0 0, .slice none 0 0, .slice none 0 0]) (by have := HTH.out; simpa using this)
    have hld := run_loadVar_mid (P := Try.prog) (w9.setCells w.heap.size 0 ([Value.int .i64 0, .int .i64 0, .slice none 0 0, .slice none 0 0, .slice none 0 0])) w.heap.size 0 28 ([Value.int .i64 0, .int .i64 0, .slice none 0 0, .slice none 0 0, .slice none 0 0]) _ hra Try.underlying28 rfl HCI.out
    have HFZ : Fresh w (w9.setCells w.heap.size 0 ([Value.int .i64 0, .int .i64 0, .slice none 0 0, .slice none 0 0, .slice none 0 0])) := (HD9.out.frm).trans' (frm_setCells w.heap.size ([Value.int .i64 0, .int .i64 0, .slice none 0 0, .slice none 0 0, .slice none 0 0]) 0 w9) (fun k hk e => by omega)
    refine bodyPost_ret (v := .tuple #[.agg [Value.int .i64 0, .int .i64 0, .slice none 0 0, .slice none 0 0, .slice none 0 0].toArray, .int .i64 6]) ?_ rfl (kd_no HN.out rfl HFZ)
    rw [results_cell_tmp Try.results65]
    show (((asAddr (.pointer (some ⟨w.heap.size, 0, none⟩))).run Try.prog (w9.setCells w.heap.size 0 ([Value.int .i64 0, .int .i64 0, .slice none 0 0, .slice none 0 0, .slice none 0 0]))).andThen fun a w₁ => ((loadVar 28 a).run Try.prog w₁).andThen fun v w₂ => Result.ok (Value.tuple #[v, Value.int .i64 6]) w₂) = _
    simp only [asAddr, Sem.run_pure, Result.andThen_ok, hld]
  | true =>
    cases rs with
    | false =>
      have HN : Hid (decS bs = none) := Lib.hid (by unfold decS; rw [HDS.out]; dsimp only; rw [← HRR.out]; simp)
      have HCI : Hid ((Try.prog.info? 28).map (·.size) = some ([Value.int .i64 0, .int .i64 0, .slice none 0 0, .slice none 0 0, .slice none 0 0]).length) := Lib.hid (by kernel_rfl)
      have HCJ : Hid ((Try.prog.info? 28).map (·.size) = some ([Value.int .i64 0, .int .i64 0, .slice none 0 0, .slice none 0 0, .slice none 0 0]).toArray.size) := Lib.hid (by kernel_rfl)
      have HTH : Hid (w9.there w.heap.size 0 ([Value.int .i64 0, .int .i64 0, .slice none 0 0, .slice none 0 0, .slice none 0 0]).toArray.size) := Lib.hid (by exact HD9.out.res.there rfl)
      have HON : Hid (([Value.int .i64 0, .int .i64 0, .slice none 0 0, .slice none 0 0, .slice none 0 0]).toArray.all (·.oneCell') = true) := Lib.hid (by kernel_rfl)
      go_wp2_with (refine wpList_store_mid rfl 28 (.tmp 2) (.tmp 39) rfl w.heap.size 0 ([Value.int .i64 0, .int .i64 0, .slice none 0 0, .slice none 0 0, .slice none 0 0]).toArray rfl rfl HTH.out HCJ.out HON.out ?_)
      have hra : (w9.setCells w.heap.size 0 ([Value.int .i64 0, .int .i64 0, .slice none 0 0, .slice none 0 0, .slice none 0 0])).rangeAt w.heap.size 0 ([Value.int .i64 0, .int .i64 0, .slice none 0 0, .slice none 0 0, .slice none 0 0]) := World.rangeAt_setCells_same w9 w.heap.size 0 ([Value.int .i64 0, .int .i64 0, .slice none 0 0, .slice none 0 0, .slice none 0 0]) (by have := HTH.out; simpa using this)
      have hld := run_loadVar_mid (P := Try.prog) (w9.setCells w.heap.size 0 ([Value.int .i64 0, .int .i64 0, .slice none 0 0, .slice none 0 0, .slice none 0 0])) w.heap.size 0 28 ([Value.int .i64 0, .int .i64 0, .slice none 0 0, .slice none 0 0, .slice none 0 0]) _ hra Try.underlying28 rfl HCI.out
      have HFZ : Fresh w (w9.setCells w.heap.size 0 ([Value.int .i64 0, .int .i64 0, .slice none 0 0, .slice none 0 0, .slice none 0 0])) := (HD9.out.frm).trans' (frm_setCells w.heap.size ([Value.int .i64 0, .int .i64 0, .slice none 0 0, .slice none 0 0, .slice none 0 0]) 0 w9) (fun k hk e => by omega)
      refine bodyPost_ret (v := .tuple #[.agg [Value.int .i64 0, .int .i64 0, .slice none 0 0, .slice none 0 0, .slice none 0 0].toArray, .int .i64 6]) ?_ rfl (kd_no HN.out rfl HFZ)
      rw [results_cell_tmp Try.results65]
      show (((asAddr (.pointer (some ⟨w.heap.size, 0, none⟩))).run Try.prog (w9.setCells w.heap.size 0 ([Value.int .i64 0, .int .i64 0, .slice none 0 0, .slice none 0 0, .slice none 0 0]))).andThen fun a w₁ => ((loadVar 28 a).run Try.prog w₁).andThen fun v w₂ => Result.ok (Value.tuple #[v, Value.int .i64 6]) w₂) = _
      simp only [asAddr, Sem.run_pure, Result.andThen_ok, hld]
    | true =>
      have HY : Hid (decS bs = some ⟨x1, x2, vs, ls, ds⟩) := Lib.hid (by unfold decS; rw [HDS.out]; dsimp only; rw [← HRR.out, ← HWW.out]; simp)
      obtain ⟨cs, hcs⟩ : ∃ cs : List Value, cs = [Value.int .i64 (x1 : Int), .int .i64 (x2 : Int), .slice AV vs.length cv, .slice AL ls.length cl, .slice AD ds.length cd] := ⟨_, rfl⟩
      have HCI : Hid ((Try.prog.info? 28).map (·.size) = some (cs).length) := Lib.hid (by rw [hcs]; kernel_rfl)
      have HCJ : Hid ((Try.prog.info? 28).map (·.size) = some (cs).toArray.size) := Lib.hid (by rw [hcs]; kernel_rfl)
      have HTH : Hid (w9.there w.heap.size 0 (cs).toArray.size) := Lib.hid (by rw [hcs]; exact HD9.out.res.there rfl)
      have HON : Hid ((cs).toArray.all (·.oneCell') = true) := Lib.hid (by rw [hcs]; kernel_rfl)
      have HCL : Hid (w9.rangeAt q 0 cs) := Lib.hid (by rw [hcs]; intro j v hv; rw [Nat.zero_add, HBX.out.2.cell j]; simpa using hv)
      have HCS := Lib.hid hcs
      clear hcs
      go_wp2_with (first | (with_reducible refine wpList_load_mid rfl 28 (.tmp 5) rfl q 0 rfl cs _ HCL.out Try.underlying28 rfl HCI.out ?_) | (with_reducible refine wpList_store_mid rfl 28 (.tmp 2) (.tmp 40) rfl w.heap.size 0 cs.toArray rfl rfl HTH.out HCJ.out HON.out ?_))
      have hra : (w9.setCells w.heap.size 0 (cs)).rangeAt w.heap.size 0 (cs) := World.rangeAt_setCells_same w9 w.heap.size 0 (cs) (by have := HTH.out; simpa using this)
      have hld := run_loadVar_mid (P := Try.prog) (w9.setCells w.heap.size 0 (cs)) w.heap.size 0 28 (cs) _ hra Try.underlying28 rfl HCI.out
      have HFZ : Fresh w (w9.setCells w.heap.size 0 (cs)) := (HD9.out.frm).trans' (frm_setCells w.heap.size (cs) 0 w9) (fun k hk e => by omega)
      refine bodyPost_ret (v := .tuple #[.agg cs.toArray, .int .i64 0]) ?_ rfl (kd_yes HY.out (by rw [HCS.out]) (rdS_of HS59.out HS69.out HS79.out (frm_setCells w.heap.size cs 0 w9) hwW (show vs.length ≤ 1000 by omega) (show ls.length ≤ 1000 by omega) (show ds.length ≤ 100000 by omega)) HFZ)
      rw [results_cell_tmp Try.results65]
      show (((asAddr (.pointer (some ⟨w.heap.size, 0, none⟩))).run Try.prog (w9.setCells w.heap.size 0 (cs))).andThen fun a w₁ => ((loadVar 28 a).run Try.prog w₁).andThen fun v w₂ => Result.ok (Value.tuple #[v, Value.int .i64 0]) w₂) = _
      simp only [asAddr, Sem.run_pure, Result.andThen_ok, hld]
end Go.Proofs.Ytlceembcehokoaa

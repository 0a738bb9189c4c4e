/- Proved here, for the statement ClientOnceSaid: laws that its walk leans on. It holds with no condition. (Put together and shortened by a program out of many texts: On47, On48, On49.) -/
import Derived.Test.YtnmokpbomeamfaaGreatZ20
set_option linter.unusedVariables false
set_option maxRecDepth 100000
set_option maxHeartbeats 64000000
namespace Go.Proofs.YtnmokpbomeamfaaGreat
section
open Go.RowKit QueueM
def bookAll (t : TypeId) : Bool := t == 87 || t == 134 || t == 146 || t == 152 || t == 167 || t == 3 || t == 138 || t == 175
theorem other_no {w : World} {k : Nat} {t : TypeId} {cs : Array Value} {S : Nat → Prop} {T : TypeId → Bool} (hb : Blk w k t cs) (hT : T t = true) (hS : ∀ k, S k → k < w.heap.size → ∃ t cs, Blk w k t cs ∧ T t = false) : ¬ S k := fun s => by
 obtain ⟨t', cs', h1, h2⟩ := hS k s hb.lt
 exact hb.apart h1 (fun e => by subst e; rw [hT] at h2; cases h2) rfl
theorem other_sl {w : World} {B e size n k : Nat} {v : Value} {xs : List Value} {S : Nat → Prop} {T : TypeId → Bool} (hs : Sl w B e size v n xs) (hT : T e = true) (hS : ∀ k, S k → k < w.heap.size → ∃ t cs, Blk w k t cs ∧ T t = false) (hk : v.ownBlock = some k) : ¬ S k := by
 obtain ⟨cs, hb, _⟩ := hs.has hk
 exact other_no hb hT hS
theorem BookAt.other {w w' : World} {B b : Nat} {M : BkM} {S : Nat → Prop} (h : BookAt w B b M) (F : Frm S w w') (hS : ∀ k, S k → k < w.heap.size → ∃ t cs, Blk w k t cs ∧ bookAll t = false) : BookAt w' B b M := by
 refine ⟨h.blk.frm F (other_no h.blk (by decide) hS), h.ge, h.fsl.frm F (fun k hk => other_sl h.fsl (by decide) hS hk), h.lsl.frm F (fun k hk => other_sl h.lsl (by decide) hS hk), ?_, ?_, h.ap⟩
 ·intro p hp
  obtain ⟨h1, h2⟩ := h.fl p hp
  refine ⟨h1.frm F (other_no h1.blk (by decide) hS) (fun k hk => ?_) (fun k cs hk => other_no hk (by decide) hS), h2⟩
  obtain ⟨cs, hc, _⟩ := h1.hasH hk
  exact other_no hc (by decide) hS
 ·intro p hp
  have h1 := h.qu p hp
  exact h1.frm F (other_no h1.blk (by decide) hS) (fun k hk => other_sl h1.sl (by decide) hS hk)
structure Td where
 code : Int
 client : Int
 seq : Int
 reply : List UInt8
def tcel (d : Td) (A : Option Addr) (c : Nat) : List Value := [.int .i64 d.code, .int .i64 d.client, .int .i64 d.seq, .slice A d.reply.length c]
def TdZ (w : World) (zs : List Value) (d : Td) : Prop := ∃ A c, zs = tcel d A c ∧ Sl w 0 5 1 (.slice A d.reply.length c) d.reply.length (d.reply.map bv)
theorem TdZ.info {w : World} {zs : List Value} {d : Td} (h : TdZ w zs d) : (Tryz.prog.info? 73).map (·.size) = some zs.toArray.size := by
 obtain ⟨A, c, rfl, _⟩ := h
 kernel_rfl
theorem TdZ.one {w : World} {zs : List Value} {d : Td} (h : TdZ w zs d) : zs.toArray.all (·.oneCell') = true := by
 obtain ⟨A, c, rfl, _⟩ := h
 kernel_rfl
theorem TdZ.len {w : World} {zs : List Value} {d : Td} (h : TdZ w zs d) : zs.length = 4 := by
 obtain ⟨A, c, rfl, _⟩ := h
 rfl
theorem TdZ.nil (w : World) (a b c : Int) : TdZ w [.int .i64 a, .int .i64 b, .int .i64 c, .slice none 0 0] ⟨a, b, c, []⟩ := ⟨none, 0, rfl, Sl.nil _ _ _ _⟩
theorem TdZ.there {w : World} {zs : List Value} {d : Td} {p : Nat} {cs : Array Value} (h : TdZ w zs d) (hb : Blk w p 73 cs) (hs : cs.size = 4) : w.there p 0 zs.toArray.size := hb.there (by rw [hs]; simp [h.len])
theorem td_res {fn : Func} {p : Tmp} (h : fn.results = #[.cell p 73]) {tmps : Array Value} {W X : World} {g : Nat} {zs : List Value} {d : Td} (hp : tmps.getD p undef = .pointer (some ⟨g, 0, none⟩)) (hb : Blk W g 73 zs.toArray) (hz : TdZ X zs d) :
 (results fn tmps).run Tryz.prog W = .ok (.agg zs.toArray) W :=
 results_cell_row h tmps W g _ zs.toArray _ _ hp hb Tryz.underlying73 rfl hz.info
def tabT (t : TypeId) : Bool := bookT t || t == 63 || t == 140
def tabAll (t : TypeId) : Bool := bookAll t || t == 63 || t == 140 || t == 5
structure Tab0 (w : World) (B t b : Nat) (M : BkM) : Prop where
 blk : Blk w t 63 #[.int .i64 1, .slice none 0 0, .pointer (some ⟨b, 0, none⟩)]
 tge : B ≤ t
 book : BookAt w B b M
structure Tab1 (w : World) (B t b : Nat) (M : BkM) (g o lc : Nat) (last : Int) (RA : Option Addr) (rc : Nat) (rep : List UInt8) : Prop where
 blk : Blk w t 63 #[.int .i64 2, .slice (some ⟨g, o, none⟩) 1 lc, .pointer (some ⟨b, 0, none⟩)]
 tge : B ≤ t
 sl : Sl w B 140 4 (.slice (some ⟨g, o, none⟩) 1 lc) 1 [.int .i64 1, .int .i64 3, .int .i64 last, .slice RA rep.length rc]
 rep : Sl w 0 5 1 (.slice RA rep.length rc) rep.length (rep.map bv)
 book : BookAt w B b M
def TabS (w : World) (B t : Nat) : Option (Int × List UInt8) → Book → Prop
 | none, x => ∃ b M, Tab0 w B t b M ∧ M.abs = x
 | some s, x => ∃ b M g o lc RA rc, Tab1 w B t b M g o lc s.1 RA rc s.2 ∧ M.abs = x
theorem tab_book {k : Nat} {w : World} {S : Nat → Prop} (hS : ∀ k, S k → k < w.heap.size → ∃ t cs, Blk w k t cs ∧ tabAll t = false) : ∀ k, S k → k < w.heap.size → ∃ t cs, Blk w k t cs ∧ bookAll t = false := fun k s hk => by
 obtain ⟨t, cs, h1, h2⟩ := hS k s hk
 refine ⟨t, cs, h1, ?_⟩
 unfold tabAll at h2
 simp only [Bool.or_eq_false_iff] at h2
 exact h2.1.1.1
theorem Tab0.other {w w' : World} {B t b : Nat} {M : BkM} {S : Nat → Prop} (h : Tab0 w B t b M) (F : Frm S w w') (hS : ∀ k, S k → k < w.heap.size → ∃ t cs, Blk w k t cs ∧ tabAll t = false) : Tab0 w' B t b M :=
 ⟨h.blk.frm F (other_no h.blk (by decide) hS), h.tge, h.book.other F (tab_book (k := 0) hS)⟩
theorem Tab1.other {w w' : World} {B t b : Nat} {M : BkM} {g o lc : Nat} {last : Int} {RA : Option Addr} {rc : Nat} {rep : List UInt8} {S : Nat → Prop} (h : Tab1 w B t b M g o lc last RA rc rep) (F : Frm S w w') (hS : ∀ k, S k → k < w.heap.size → ∃ t cs, Blk w k t cs ∧ tabAll t = false) : Tab1 w' B t b M g o lc last RA rc rep :=
 ⟨h.blk.frm F (other_no h.blk (by decide) hS), h.tge, h.sl.frm F (fun k hk => other_sl h.sl (by decide) hS hk), h.rep.frm F (fun k hk => other_sl h.rep (by decide) hS hk), h.book.other F (tab_book (k := 0) hS)⟩
theorem Tab0.fresh {w w' : World} {B t b : Nat} {M : BkM} (h : Tab0 w B t b M) (F : Fresh w w') : Tab0 w' B t b M := h.other F (fun _ f => f.elim)
theorem Tab1.fresh {w w' : World} {B t b : Nat} {M : BkM} {g o lc : Nat} {last : Int} {RA : Option Addr} {rc : Nat} {rep : List UInt8} (h : Tab1 w B t b M g o lc last RA rc rep) (F : Fresh w w') : Tab1 w' B t b M g o lc last RA rc rep := h.other F (fun _ f => f.elim)
theorem TabS.other {w w' : World} {B t : Nat} {st : Option (Int × List UInt8)} {x : Book} {S : Nat → Prop} (h : TabS w B t st x) (F : Frm S w w') (hS : ∀ k, S k → k < w.heap.size → ∃ t cs, Blk w k t cs ∧ tabAll t = false) : TabS w' B t st x := by
 cases st with
 | none => obtain ⟨b, M, h1, h2⟩ := h; exact ⟨b, M, h1.other F hS, h2⟩
 | some s => obtain ⟨b, M, g, o, lc, RA, rc, h1, h2⟩ := h; exact ⟨b, M, g, o, lc, RA, rc, h1.other F hS, h2⟩
theorem TabS.fresh {w w' : World} {B t : Nat} {st : Option (Int × List UInt8)} {x : Book} (h : TabS w B t st x) (F : Fresh w w') : TabS w' B t st x := h.other F (fun _ f => f.elim)
theorem Tab1.book' {w w' : World} {B t b : Nat} {M M' : BkM} {g o lc : Nat} {last : Int} {RA : Option Addr} {rc : Nat} {rep : List UInt8} (h : Tab1 w B t b M g o lc last RA rc rep) (F : FT bookT B w w') (hb : BookAt w' B b M') : Tab1 w' B t b M' g o lc last RA rc rep :=
 ⟨F.blk h.blk (by decide), h.tge, F.sl h.sl (by decide), F.sl h.rep (by decide), hb⟩
def qF (w : World) (B t : Nat) (st : Option (Int × List UInt8)) (x : Book) (d : Td) (e : Ending) (w' : World) : Prop := ∃ zs, e = .returned (.agg zs.toArray) ∧ TdZ w' zs d ∧ TabS w' B t st x ∧ FT tabT B w w'
theorem td_end {w X : World} {B t p : Nat} {st : Option (Int × List UInt8)} {x : Book} {zs : List Value} {d : Td} {cs : Array Value} (hp : Blk X p 73 cs) (hcs : cs.size = 4) (hw : w.heap.size ≤ p) (hz : TdZ X zs d) (ht : TabS X B t st x) (F : FT tabT B w X) :
 Blk (X.setCells p 0 zs) p 73 zs.toArray ∧ qF w B t st x d (.returned (.agg zs.toArray)) (X.setCells p 0 zs) := by
 have FS : Frm (fun k => k = p) X (X.setCells p 0 zs) := by
  have := jE p zs 0 X
  have e : (fun k => p = k) = (fun k => k = p) := by funext k; exact propext eq_comm
  rwa [e] at this
 refine ⟨jG hp (by rw [hz.len, hcs]), zs, rfl, ?_, ht.other FS (fun k e _ => by subst e; exact ⟨_, _, hp, by decide⟩), Frm.trans' F FS (fun k hk e => by omega)⟩
 obtain ⟨A, c, e, hs⟩ := hz
 exact ⟨A, c, e, hs.frm FS (fun k hk e => by subst e; exact hs.apart hp (by decide) hk)⟩
def bookE : BkM := ⟨0, 1, none, 0, [], none, 0, []⟩
def book0 : Book := ⟨0, 1, [], []⟩
theorem book0_ok : BookOk 0 book0 := by
 refine ⟨by simp [book0], fun p hp => (by cases hp), by simp [book0], by simp [book0], by simp [book0], by simp [book0], by simp [book0], by simp [book0], fun y hy => (by cases hy), fun p hp => (by cases hp)⟩
theorem new19_any (w : World) : Calls Tryz.prog 7 #[] w fun e w' => ∃ t, e = .returned (.pointer (some ⟨t, 0, none⟩)) ∧ TabS w' w.heap.size t none book0 ∧ Fresh w w' := by
 have HN : Hid (Calls Tryz.prog 19 #[] w fun e w' => ∃ b, e = .returned (.pointer (some ⟨b, 0, none⟩)) ∧ BookAt w' w.heap.size b bookE ∧ Fresh w w') := zh (by
  go_in
  go_wp2_with fail
  go_ret
  exact ⟨_, rfl, ⟨Blk.new w _ _, zf _, Sl.nil _ _ _ _, Sl.nil _ _ _ _, fun p hp => (by cases hp), fun p hp => (by cases hp), List.Pairwise.nil⟩, jC _ _⟩)
 go_in
 go_wp2_with fail
 refine HN.out.mono ?_
 rintro e w2 ⟨b, rfl, hb, f2⟩
 have HB := zh hb
 have HF := zh f2
 clear hb f2
 go_wp2_with fail
 go_ret
 exact ⟨_, rfl, ⟨b, bookE, ⟨Blk.new w2 _ _, HF.out.size, HB.out.fresh (jC _ _)⟩, rfl⟩, HF.out.trans (jC _ _)⟩
theorem place19_any (w : World) (B t b : Nat) (M : BkM) (g o lc : Nat) (last : Int) (RA : Option Addr) (rc : Nat) (rep : List UInt8) (h : Tab1 w B t b M g o lc last RA rc rep) :
 Calls Tryz.prog 49 #[.pointer (some ⟨t, 0, none⟩), .int .i64 1] w fun e w' => e = .returned (.int .i64 0) ∧ w' = w := by
 have y1 : w.cell? ⟨t, 1, none⟩ = some (.slice (some ⟨g, o, none⟩) 1 lc) := h.blk.cell 1
 have x0 : w.cell? ⟨g, o, none⟩ = some (.int .i64 1) := h.sl.cell (j := 0) (by simp)
 clear h
 go_in
 go_wp2_with fail
 go_loopw [5] (fun v5 wr => v5 = .int .i64 0 ∧ wr = w) (fun _ _ => 0)
 case atStart => exact ⟨rfl, rfl⟩
 case round =>
  obtain ⟨rfl, rfl⟩ := hrel
  go_wp2_with fail
  go_ret
  exact ⟨rfl, rfl⟩
theorem info_se : (Tryz.prog.info? 140).map (fun i => (i.zero, i.size, i.bytes)) = some (some (.agg #[.int .i64 0, .int .i64 0, .int .i64 0, .slice none 0 0]), 4, 48) := by kernel_rfl
theorem begin_old (w : World) (B t b : Nat) (M : BkM) (g o lc : Nat) (last : Int) (RA : Option Addr) (rc : Nat) (rep : List UInt8) (h : Tab1 w B t b M g o lc last RA rc rep) (hB : B ≤ w.heap.size) (A : Option Addr) (c : Nat) :
 Calls Tryz.prog 48 #[.pointer (some ⟨t, 0, none⟩), .agg (rcel ⟨1, 0, 0, 3, []⟩ A c).toArray] w fun e w' => qF w B t (some (last, rep)) M.abs ⟨0, 1, 0, []⟩ e w' := by
 unfold rcel
 dsimp only [zX]
 obtain ⟨W, hW⟩ : ∃ W, (w.alloc (.cells #[.int .i64 1, .int .i64 0, .int .i64 0, .int .i64 3, .slice A 0 c] 67)).alloc (.cells #[.int .i64 0, .int .i64 0, .int .i64 0, .slice none 0 0] 73) = W := ⟨_, rfl⟩
 have HFW : Hid (Fresh w W) := zh (by rw [← hW]; exact (jC _ _).trans (jC _ _))
 have HRQ : Hid (Blk W w.heap.size 67 #[.int .i64 1, .int .i64 0, .int .i64 0, .int .i64 3, .slice A 0 c]) := zh (by rw [← hW]; exact (Blk.new _ _ _).alloc _)
 have HTD : Hid (Blk W (w.heap.size + 1) 73 #[.int .i64 0, .int .i64 0, .int .i64 0, .slice none 0 0]) := zh (by rw [← hW]; have := Blk.new (w.alloc (.cells #[.int .i64 1, .int .i64 0, .int .i64 0, .int .i64 3, .slice A 0 c] 67)) 73 #[.int .i64 0, .int .i64 0, .int .i64 0, .slice none 0 0]; rw [zJ] at this; exact this)
 have HT : Hid (Tab1 W B t b M g o lc last RA rc rep) := zh (h.fresh HFW.out)
 have y1 : W.cell? ⟨t, 1, none⟩ = some (.slice (some ⟨g, o, none⟩) 1 lc) := HT.out.blk.cell 1
 have x0 : W.cell? ⟨g, o, none⟩ = some (.int .i64 1) := HT.out.sl.cell (j := 0) (by simp)
 have x1 : W.cell? ⟨g, o + 1, none⟩ = some (.int .i64 3) := HT.out.sl.cell (j := 1) (by simp)
 have y3 : W.cell? ⟨w.heap.size, 3, none⟩ = some (.int .i64 3) := HRQ.out.cell 3
 clear h
 go_in
 go_upto_region 1 with fail
 try rw [hW]
 clear hW
 go_wp2_with fail
 go_loopw [5] (fun v5 wr => v5 = .int .i64 0 ∧ wr = W) (fun _ _ => 0)
 case atStart => exact ⟨rfl, rfl⟩
 case round =>
  obtain ⟨rfl, rfl⟩ := hrel
  go_upto_region 5 with (first | go_region | fail)
  have HTD2 : Hid (Blk wr.drew (w.heap.size + 1) 73 #[.int .i64 0, .int .i64 0, .int .i64 0, .slice none 0 0]) := zh HTD.out
  have HT2 := zh (HT.out.fresh (za _ wr).drew)
  obtain ⟨zs, hzs⟩ : ∃ zs : List Value, zs = [.int .i64 0, .int .i64 1, .int .i64 0, .slice none 0 0] := ⟨_, rfl⟩
  have HZ : Hid (TdZ wr.drew zs ⟨0, 1, 0, []⟩) := zh (by rw [hzs]; exact TdZ.nil _ _ _ _)
  have HZS := zh hzs
  have HTH := zh (HZ.out.there (HTD2.out) rfl)
  have HZJ := zh HZ.out.info
  have HZO := zh HZ.out.one
  clear hzs
  go_wp2_with (refine zd rfl 73 (.tmp 4) (.tmp 34) rfl (w.heap.size + 1) 0 zs.toArray rfl (by rw [HZS.out]; rfl) HTH.out HZJ.out HZO.out ?_)
  obtain ⟨E1, E2⟩ := td_end (HTD2.out) rfl (by omega) HZ.out (show TabS wr.drew B t (some (last, rep)) M.abs from ⟨b, M, g, o, lc, RA, rc, HT2.out, rfl⟩) (FT.of_fresh HFW.out.drew)
  exact zi (v := .agg zs.toArray) (td_res Tryz.results48 rfl E1 HZ.out) rfl E2
theorem begin_new (w : World) (B t b : Nat) (M : BkM) (h : Tab0 w B t b M) (hB : B ≤ w.heap.size) (A : Option Addr) (c : Nat) :
 Calls Tryz.prog 48 #[.pointer (some ⟨t, 0, none⟩), .agg (rcel ⟨1, 0, 0, 3, []⟩ A c).toArray] w fun e w' => qF w B t (some (0, [])) M.abs ⟨0, 1, 0, []⟩ e w' := by
 obtain ⟨i0, hi, hz0, hz1, hz2⟩ := info_parts info_se
 unfold rcel
 dsimp only [zX]
 obtain ⟨W, hW⟩ : ∃ W, (w.alloc (.cells #[.int .i64 1, .int .i64 0, .int .i64 0, .int .i64 3, .slice A 0 c] 67)).alloc (.cells #[.int .i64 0, .int .i64 0, .int .i64 0, .slice none 0 0] 73) = W := ⟨_, rfl⟩
 have HFW : Hid (Fresh w W) := zh (by rw [← hW]; exact (jC _ _).trans (jC _ _))
 have HRQ : Hid (Blk W w.heap.size 67 #[.int .i64 1, .int .i64 0, .int .i64 0, .int .i64 3, .slice A 0 c]) := zh (by rw [← hW]; exact (Blk.new _ _ _).alloc _)
 have HTD : Hid (Blk W (w.heap.size + 1) 73 #[.int .i64 0, .int .i64 0, .int .i64 0, .slice none 0 0]) := zh (by rw [← hW]; have := Blk.new (w.alloc (.cells #[.int .i64 1, .int .i64 0, .int .i64 0, .int .i64 3, .slice A 0 c] 67)) 73 #[.int .i64 0, .int .i64 0, .int .i64 0, .slice none 0 0]; rw [zJ] at this; exact this)
 have HT : Hid (Tab0 W B t b M) := zh (h.fresh HFW.out)
 have HBW : Hid (B ≤ W.heap.size) := zh (zp hB HFW.out.size)
 have HCF : Hid (∀ w', Fresh W w' → w'.cell? ⟨t, 0, none⟩ = some (.int .i64 1) ∧ w'.cell? ⟨w.heap.size, 3, none⟩ = some (.int .i64 3)) := zh fun w' F => ⟨(HT.out.fresh F).blk.cell 0, (HRQ.out.frm F (fun f => f)).cell 3⟩
 have y1 : W.cell? ⟨t, 1, none⟩ = some (.slice none 0 0) := HT.out.blk.cell 1
 clear h hB
 go_in
 go_upto_region 1 with fail
 try rw [hW]
 clear hW
 go_wp2_with fail
 go_loopw [5] (fun v5 wr => v5 = .int .i64 0 ∧ wr = W) (fun _ _ => 0)
 case atStart => exact ⟨rfl, rfl⟩
 case round =>
  obtain ⟨rfl, hwr⟩ := hrel
  replace hwr := hwr.symm
  subst hwr
  go_upto_region 8 with fail
  clear y1
  have yd : W.drew.cell? ⟨t, 1, none⟩ = some (.slice none 0 0) := HT.out.blk.cell 1
  have HFV : Hid (Fresh W (W.drew.alloc (.cells #[.int .i64 1, .int .i64 3, .int .i64 0, .slice none 0 0] 140))) := zh ((za _ W).drew.alloc _)
  have HTV : Hid (Tab0 (W.drew.alloc (.cells #[.int .i64 1, .int .i64 3, .int .i64 0, .slice none 0 0] 140)) B t b M) := zh (HT.out.fresh HFV.out)
  have ye : (W.drew.alloc (.cells #[.int .i64 1, .int .i64 3, .int .i64 0, .slice none 0 0] 140)).cell? ⟨t, 1, none⟩ = some (.slice none 0 0) := HTV.out.blk.cell 1
  have ye2 : (W.alloc (.cells #[.int .i64 1, .int .i64 3, .int .i64 0, .slice none 0 0] 140)).drew.cell? ⟨t, 1, none⟩ = some (.slice none 0 0) := ye
  have RV : Hid (Rd (W.drew.alloc (.cells #[.int .i64 1, .int .i64 3, .int .i64 0, .slice none 0 0] 140)) (W.drew.heap.size + 1) (some ⟨W.drew.heap.size, 0, none⟩) [.int .i64 1, .int .i64 3, .int .i64 0, .slice none 0 0]) := zh (jL W.drew [.int .i64 1, .int .i64 3, .int .i64 0, .slice none 0 0] 140)
  have HON : Hid (∀ u ∈ ([.int .i64 1, .int .i64 3, .int .i64 0, .slice none 0 0] : List Value), u.oneCell' = true) := zh (by intro u hu; simp at hu; rcases hu with rfl | rfl | rfl | rfl <;> rfl)
  have HSB : Hid (∀ wa u, Fresh W wa → (wa.setCell ⟨t, 1, none⟩ u).cell? ⟨t, 0, none⟩ = some (.int .i64 1) ∧ (wa.setCell ⟨t, 1, none⟩ u).cell? ⟨w.heap.size, 3, none⟩ = some (.int .i64 3)) := zh fun wa u F => ⟨((HT.out.fresh F).blk.set 1 u).cell 0, ((HRQ.out.frm F (fun f => f)).far (p := ⟨t, 1, none⟩) (HRQ.out.apart HT.out.blk (by decide)) u).cell 3⟩
  refine zj (S := (fun w' => w'.cell? ⟨t, 0, none⟩ = some (.int .i64 1) ∧ w'.cell? ⟨w.heap.size, 3, none⟩ = some (.int .i64 3))) (by kernel_rfl) (HCF.out _ (za _ _).drew) (fun hHeld => ?_)
  iterate 4 ((first | refine ztn (v := ?_) (zo rfl) ?_ | refine ztz (v := ?_) (zo rfl) ?_); try simp only [Act.put, zT, zZ, zS])
  (refine zt 5 (v := ?_) (zo rfl) ?_; try simp only [Act.put, zT, zZ, zS])
  iterate 6 (refine ztn (v := ?_) (zo rfl) ?_; try simp only [Act.put, zT, zZ, zS])
  refine zr2 4 12 (zo rfl) (zo rfl) (fun K hK => ?_) (fun K hK => ?_)
  ·go_simp
   refine hK.out _ _ (HCF.out _ (za _ _).drew) (fun hHeld => ?_)
   clear hK K
   try simp only [Act.put, zT, zZ, zS]
   refine zr1 12 (zo rfl) (fun K hK => ?_)
   go_simp
   refine hK.out _ _ (HCF.out _ HFV.out) (fun hHeld => ?_)
   clear hK K
   try simp only [Act.put, zT, zZ, zS]
   refine zr1 13 (zo rfl) (fun K hK => ?_)
   refine jF (by rfl) (.tmp 46) (.tmp 54) _ (by rfl) B 140 i0 _ 4 48 Tryz.underlying61 hi hz0 hz1 hz2 rfl (by omega) (.slice none 0 0) 0 [] (by simp [Act.eval, Act.put]) (Sl.nil _ _ _ _) (W.drew.heap.size + 1) (some ⟨W.drew.heap.size, 0, none⟩) 1 1 [.int .i64 1, .int .i64 3, .int .i64 0, .slice none 0 0] (by simp [Act.eval, Act.put]) rfl RV.out HON.out (by unfold maxLen; omega) (by omega) (zp HBW.out HFV.out.size) ?_
   intro v1 wa hs1 hf1 _
   obtain ⟨g, o, lc, rfl, _, _, _, _⟩ := hs1.head (by omega)
   have HFA : Hid (Fresh W wa) := zh (HFV.out.trans (hf1.mono (fun k _ hk => by cases hk)))
   have HS1 := zh hs1
   have hca : wa.cell? ⟨t, 1, none⟩ = some (.slice none 0 0) := (HT.out.fresh HFA.out).blk.cell 1
   have hfa : wa.frozen? ⟨t, 1, none⟩ = false := (HT.out.fresh HFA.out).blk.frozen 1
   clear hs1 hf1
   refine hK.out _ _ (HCF.out wa HFA.out) (fun hHeld => ?_)
   clear hK K
   try simp only [Act.put, zT, zZ, zS]
   iterate 2 (refine ztn (v := ?_) (zo rfl) ?_; try simp only [Act.put, zT, zZ, zS])
   refine zr1 16 (zo rfl) (fun K hK => ?_)
   go_simp
   refine hK.out _ _ (HSB.out wa _ HFA.out) (fun hHeld => ?_)
   clear hK K
   try simp only [Act.put, zT, zZ, zS]
   refine wpAnyH_done (by kernel_rfl) ?_ _
   have hbt := (HT.out.fresh HFA.out).blk.set 1 (.slice (some ⟨g, o, none⟩) 1 lc)
   obtain ⟨X, hX⟩ : ∃ X, X = wa.setCell ⟨t, 1, none⟩ (.slice (some ⟨g, o, none⟩) 1 lc) := ⟨_, rfl⟩
   have HFX : Hid (Frm (fun k => k = t) wa X) := zh (by rw [hX]; exact (za (fun k => k = t) wa).setCell (p := ⟨t, 1, none⟩) (fun _ => rfl) _)
   try simp only [Nat.zero_add] at hX ⊢
   rw [← hX] at hbt ⊢
   have HBT := zh hbt
   have z0 : X.cell? ⟨t, 0, none⟩ = some (.int .i64 1) := HBT.out.cell 0
   have z1 : X.frozen? ⟨t, 0, none⟩ = false := HBT.out.frozen 0
   obtain ⟨Y, hY⟩ : ∃ Y, X.setCell ⟨t, 0, none⟩ (.int .i64 2) = Y := ⟨_, rfl⟩
   have HFY : Hid (Frm (fun k => k = t) X Y) := zh (by rw [← hY]; exact (za (fun k => k = t) X).setCell (p := ⟨t, 0, none⟩) (fun _ => rfl) _)
   have HBY : Hid (Blk Y t 63 #[.int .i64 2, .slice (some ⟨g, o, none⟩) 1 lc, .pointer (some ⟨b, 0, none⟩)]) := zh (by rw [← hY]; exact HBT.out.set 0 _)
   have y0 : Y.cell? ⟨t, 0, none⟩ = some (.int .i64 2) := HBY.out.cell 0
   have HF2 : Hid (Frm (fun k => k = t) wa Y) := zh (HFX.out.trans HFY.out)
   have HTA := zh (HT.out.fresh HFA.out)
   have HTY : Hid (Tab1 Y B t b M g o lc 0 none 0 []) := zh ⟨HBY.out, HTA.out.tge, HS1.out.frm HF2.out (fun k hk e => by subst e; exact HS1.out.apart HTA.out.blk (by decide) hk), Sl.nil _ _ _ _, HTA.out.book.other HF2.out (fun k e _ => by subst e; exact ⟨_, _, HTA.out.blk, by decide⟩)⟩
   have HTDY := zh (((HTD.out.frm HFA.out (fun f => f)).frm HF2.out (fun e => by have := (HTD.out.frm HFA.out (fun f => f)).apart HTA.out.blk (by decide); exact this e)))
   have HFTY : Hid (FT tabT B w Y) := zh ((FT.of_fresh (HFW.out.trans HFA.out)).trans (FT.of_frm HF2.out (fun k _ e => by subst e; exact ⟨HTA.out.tge, _, _, HTA.out.blk, by decide⟩)))
   clear hX hbt
   go_upto_region 10 with fail
   try rw [hY]
   clear hY z0 z1
   obtain ⟨zs, hzs⟩ : ∃ zs : List Value, zs = [.int .i64 0, .int .i64 1, .int .i64 0, .slice none 0 0] := ⟨_, rfl⟩
   have HZ : Hid (TdZ Y zs ⟨0, 1, 0, []⟩) := zh (by rw [hzs]; exact TdZ.nil _ _ _ _)
   have HZS := zh hzs
   have HTH := zh (HZ.out.there (HTDY.out) rfl)
   have HZJ := zh HZ.out.info
   have HZO := zh HZ.out.one
   clear hzs
   go_wp2_with (refine zd rfl 73 (.tmp 4) (.tmp 70) rfl (w.heap.size + 1) 0 zs.toArray rfl (by rw [HZS.out]; rfl) HTH.out HZJ.out HZO.out ?_)
   obtain ⟨E1, E2⟩ := td_end (HTDY.out) rfl (by omega) HZ.out (show TabS Y B t (some (0, [])) M.abs from ⟨b, M, g, o, lc, none, 0, HTY.out, rfl⟩) (HFTY.out)
   exact zi (v := .agg zs.toArray) (td_res Tryz.results48 rfl E1 HZ.out) rfl E2
  ·go_simp
   refine hK.out _ _ (HCF.out _ HFV.out) (fun hHeld => ?_)
   clear hK K
   try simp only [Act.put, zT, zZ, zS]
   refine zr1 4 (zo rfl) (fun K hK => ?_)
   go_simp
   refine hK.out _ _ (HCF.out _ HFV.out) (fun hHeld => ?_)
   clear hK K
   try simp only [Act.put, zT, zZ, zS]
   refine zr1 13 (zo rfl) (fun K hK => ?_)
   refine jF (by rfl) (.tmp 46) (.tmp 54) _ (by rfl) B 140 i0 _ 4 48 Tryz.underlying61 hi hz0 hz1 hz2 rfl (by omega) (.slice none 0 0) 0 [] (by simp [Act.eval, Act.put]) (Sl.nil _ _ _ _) (W.drew.heap.size + 1) (some ⟨W.drew.heap.size, 0, none⟩) 1 1 [.int .i64 1, .int .i64 3, .int .i64 0, .slice none 0 0] (by simp [Act.eval, Act.put]) rfl RV.out HON.out (by unfold maxLen; omega) (by omega) (zp HBW.out HFV.out.size) ?_
   intro v1 wa hs1 hf1 _
   obtain ⟨g, o, lc, rfl, _, _, _, _⟩ := hs1.head (by omega)
   have HFA : Hid (Fresh W wa) := zh (HFV.out.trans (hf1.mono (fun k _ hk => by cases hk)))
   have HS1 := zh hs1
   have hca : wa.cell? ⟨t, 1, none⟩ = some (.slice none 0 0) := (HT.out.fresh HFA.out).blk.cell 1
   have hfa : wa.frozen? ⟨t, 1, none⟩ = false := (HT.out.fresh HFA.out).blk.frozen 1
   clear hs1 hf1
   refine hK.out _ _ (HCF.out wa HFA.out) (fun hHeld => ?_)
   clear hK K
   try simp only [Act.put, zT, zZ, zS]
   iterate 2 (refine ztn (v := ?_) (zo rfl) ?_; try simp only [Act.put, zT, zZ, zS])
   refine zr1 16 (zo rfl) (fun K hK => ?_)
   go_simp
   refine hK.out _ _ (HSB.out wa _ HFA.out) (fun hHeld => ?_)
   clear hK K
   try simp only [Act.put, zT, zZ, zS]
   refine wpAnyH_done (by kernel_rfl) ?_ _
   have hbt := (HT.out.fresh HFA.out).blk.set 1 (.slice (some ⟨g, o, none⟩) 1 lc)
   obtain ⟨X, hX⟩ : ∃ X, X = wa.setCell ⟨t, 1, none⟩ (.slice (some ⟨g, o, none⟩) 1 lc) := ⟨_, rfl⟩
   have HFX : Hid (Frm (fun k => k = t) wa X) := zh (by rw [hX]; exact (za (fun k => k = t) wa).setCell (p := ⟨t, 1, none⟩) (fun _ => rfl) _)
   try simp only [Nat.zero_add] at hX ⊢
   rw [← hX] at hbt ⊢
   have HBT := zh hbt
   have z0 : X.cell? ⟨t, 0, none⟩ = some (.int .i64 1) := HBT.out.cell 0
   have z1 : X.frozen? ⟨t, 0, none⟩ = false := HBT.out.frozen 0
   obtain ⟨Y, hY⟩ : ∃ Y, X.setCell ⟨t, 0, none⟩ (.int .i64 2) = Y := ⟨_, rfl⟩
   have HFY : Hid (Frm (fun k => k = t) X Y) := zh (by rw [← hY]; exact (za (fun k => k = t) X).setCell (p := ⟨t, 0, none⟩) (fun _ => rfl) _)
   have HBY : Hid (Blk Y t 63 #[.int .i64 2, .slice (some ⟨g, o, none⟩) 1 lc, .pointer (some ⟨b, 0, none⟩)]) := zh (by rw [← hY]; exact HBT.out.set 0 _)
   have y0 : Y.cell? ⟨t, 0, none⟩ = some (.int .i64 2) := HBY.out.cell 0
   have HF2 : Hid (Frm (fun k => k = t) wa Y) := zh (HFX.out.trans HFY.out)
   have HTA := zh (HT.out.fresh HFA.out)
   have HTY : Hid (Tab1 Y B t b M g o lc 0 none 0 []) := zh ⟨HBY.out, HTA.out.tge, HS1.out.frm HF2.out (fun k hk e => by subst e; exact HS1.out.apart HTA.out.blk (by decide) hk), Sl.nil _ _ _ _, HTA.out.book.other HF2.out (fun k e _ => by subst e; exact ⟨_, _, HTA.out.blk, by decide⟩)⟩
   have HTDY := zh (((HTD.out.frm HFA.out (fun f => f)).frm HF2.out (fun e => by have := (HTD.out.frm HFA.out (fun f => f)).apart HTA.out.blk (by decide); exact this e)))
   have HFTY : Hid (FT tabT B w Y) := zh ((FT.of_fresh (HFW.out.trans HFA.out)).trans (FT.of_frm HF2.out (fun k _ e => by subst e; exact ⟨HTA.out.tge, _, _, HTA.out.blk, by decide⟩)))
   clear hX hbt
   go_upto_region 10 with fail
   try rw [hY]
   clear hY z0 z1
   obtain ⟨zs, hzs⟩ : ∃ zs : List Value, zs = [.int .i64 0, .int .i64 1, .int .i64 0, .slice none 0 0] := ⟨_, rfl⟩
   have HZ : Hid (TdZ Y zs ⟨0, 1, 0, []⟩) := zh (by rw [hzs]; exact TdZ.nil _ _ _ _)
   have HZS := zh hzs
   have HTH := zh (HZ.out.there (HTDY.out) rfl)
   have HZJ := zh HZ.out.info
   have HZO := zh HZ.out.one
   clear hzs
   go_wp2_with (refine zd rfl 73 (.tmp 4) (.tmp 70) rfl (w.heap.size + 1) 0 zs.toArray rfl (by rw [HZS.out]; rfl) HTH.out HZJ.out HZO.out ?_)
   obtain ⟨E1, E2⟩ := td_end (HTDY.out) rfl (by omega) HZ.out (show TabS Y B t (some (0, [])) M.abs from ⟨b, M, g, o, lc, none, 0, HTY.out, rfl⟩) (HFTY.out)
   exact zi (v := .agg zs.toArray) (td_res Tryz.results48 rfl E1 HZ.out) rfl E2
theorem do_same (w : World) (B t b : Nat) (M : BkM) (g o lc : Nat) (last : Int) (RA : Option Addr) (rc : Nat) (rep : List UInt8) (h : Tab1 w B t b M g o lc last RA rc rep) (hB : B ≤ w.heap.size) (h0 : last ≠ 0) (cmd : List UInt8) (A : Option Addr) (c : Nat) :
 Calls Tryz.prog 50 #[.pointer (some ⟨t, 0, none⟩), .int .i64 0, .agg (rcel ⟨2, 1, last, 0, cmd⟩ A c).toArray] w fun e w' => qF w B t (some (last, rep)) M.abs ⟨0, 1, last, rep⟩ e w' := by
 have d0 : (last != 0) = true := by simpa using h0
 have d1 : (last == 0) = false := by simpa using h0
 obtain ⟨rz, hrz⟩ : ∃ z, z = rcel ⟨2, 1, last, 0, cmd⟩ A c := ⟨_, rfl⟩
 rw [← hrz]
 obtain ⟨W, hW⟩ : ∃ W, (w.alloc (.cells rz.toArray 67)).alloc (.cells #[.int .i64 0, .int .i64 0, .int .i64 0, .slice none 0 0] 73) = W := ⟨_, rfl⟩
 have HFW : Hid (Fresh w W) := zh (by rw [← hW]; exact (jC _ _).trans (jC _ _))
 have HRQ : Hid (Blk W w.heap.size 67 rz.toArray) := zh (by rw [← hW]; exact (Blk.new _ _ _).alloc _)
 have HTD : Hid (Blk W (w.heap.size + 1) 73 #[.int .i64 0, .int .i64 0, .int .i64 0, .slice none 0 0]) := zh (by rw [← hW]; have := Blk.new (w.alloc (.cells rz.toArray 67)) 73 #[.int .i64 0, .int .i64 0, .int .i64 0, .slice none 0 0]; rw [zJ] at this; exact this)
 have HT : Hid (Tab1 W B t b M g o lc last RA rc rep) := zh (h.fresh HFW.out)
 have y1 : W.cell? ⟨t, 1, none⟩ = some (.slice (some ⟨g, o, none⟩) 1 lc) := HT.out.blk.cell 1
 obtain ⟨sz, hsz⟩ : ∃ z : List Value, z = [.int .i64 1, .int .i64 3, .int .i64 last, .slice RA rep.length rc] := ⟨_, rfl⟩
 have HSR : Hid (W.rangeAt g o sz) := zh (by rw [hsz]; intro j v hv; have hj : j < ([.int .i64 1, .int .i64 3, .int .i64 last, .slice RA rep.length rc] : List Value).length := (List.getElem?_eq_some_iff.1 hv).1; rw [HT.out.sl.cell hj, ← hv]; exact (zH hj).symm)
 have HSI : Hid ((Tryz.prog.info? 140).map (·.size) = some sz.length) := zh (by rw [hsz]; kernel_rfl)
 have HSJ : Hid ((Tryz.prog.info? 140).map (·.size) = some sz.toArray.size) := zh (by rw [hsz]; kernel_rfl)
 have HSO : Hid (sz.toArray.all (·.oneCell') = true) := zh (by rw [hsz]; kernel_rfl)
 obtain ⟨U, hU⟩ : ∃ U, W.alloc (.cells #[.int .i64 0, .int .i64 0, .int .i64 0, .slice none 0 0] 140) = U := ⟨_, rfl⟩
 have HBU : Hid (Blk U W.heap.size 140 #[.int .i64 0, .int .i64 0, .int .i64 0, .slice none 0 0]) := zh (by rw [← hU]; exact Blk.new _ _ _)
 have HTHU : Hid (U.there W.heap.size 0 sz.toArray.size) := zh (by rw [hsz]; exact HBU.out.there rfl)
 obtain ⟨V, hV⟩ : ∃ V, U.setCells W.heap.size 0 sz = V := ⟨_, rfl⟩
 have HFV : Hid (Fresh W V) := zh (by rw [← hV, ← hU]; exact (jC _ _).trans' (jE W.heap.size sz 0 _) (fun k hk e => by omega))
 have HSV : Hid (Blk V W.heap.size 140 sz.toArray) := zh (by rw [← hV]; exact jG HBU.out (by rw [hsz]; rfl))
 have HTV := zh (HT.out.fresh HFV.out)
 have HRV := zh (HRQ.out.frm HFV.out (fun f => f))
 have HDV := zh (HTD.out.frm HFV.out (fun f => f))
 have HFX := zh (HFW.out.trans HFV.out)
 have hqw : w.heap.size + 2 = W.heap.size := by rw [← hW]; simp
 have v1 : V.cell? ⟨w.heap.size, 1, none⟩ = some (.int .i64 1) := by rw [HRV.out.cell 1, hrz]; rfl
 have v2 : V.cell? ⟨w.heap.size, 2, none⟩ = some (.int .i64 last) := by rw [HRV.out.cell 2, hrz]; rfl
 have v4 : V.cell? ⟨w.heap.size, 4, none⟩ = some (.slice A cmd.length c) := by rw [HRV.out.cell 4, hrz]; rfl
 have u2 : V.cell? ⟨W.heap.size, 2, none⟩ = some (.int .i64 last) := by rw [HSV.out.cell 2, hsz]; rfl
 have u3 : V.cell? ⟨W.heap.size, 3, none⟩ = some (.slice RA rep.length rc) := by rw [HSV.out.cell 3, hsz]; rfl
 clear h hrz hsz
 go_in
 go_upto_region 1 with fail
 try rw [hW]
 clear hW
 go_upto_region 2 with (first | (refine zM rfl 140 (.tmp 16) rfl g o rfl sz _ HSR.out Tryz.underlying140 rfl HSI.out ?_) | (refine zd rfl 140 (.tmp 7) (.tmp 17) rfl W.heap.size 0 sz.toArray rfl rfl HTHU.out HSJ.out HSO.out ?_) | (rw [hU]; refine zd rfl 140 (.tmp 7) (.tmp 17) rfl W.heap.size 0 sz.toArray rfl rfl HTHU.out HSJ.out HSO.out ?_))
 try rw [hV]
 clear hV hU y1 HSR HSI HSJ HSO HBU HTHU
 obtain ⟨zs, hzs⟩ : ∃ zs : List Value, zs = [.int .i64 0, .int .i64 1, .int .i64 last, .slice RA rep.length rc] := ⟨_, rfl⟩
 have HZ : Hid (TdZ V zs ⟨0, 1, last, rep⟩) := zh (by rw [hzs]; exact ⟨RA, rc, rfl, HTV.out.rep⟩)
 have HZS := zh hzs
 have HTH := zh (HZ.out.there (HDV.out) rfl)
 have HZJ := zh HZ.out.info
 have HZO := zh HZ.out.one
 clear hzs
 go_wp2_with (refine zd rfl 73 (.tmp 6) (.tmp 35) rfl (w.heap.size + 1) 0 zs.toArray rfl (by rw [HZS.out]; rfl) HTH.out HZJ.out HZO.out ?_)
 obtain ⟨E1, E2⟩ := td_end (HDV.out) rfl (by omega) HZ.out (show TabS V B t (some (last, rep)) M.abs from ⟨b, M, g, o, lc, RA, rc, HTV.out, rfl⟩) (FT.of_fresh HFX.out)
 exact zi (v := .agg zs.toArray) (td_res Tryz.results50 rfl E1 HZ.out) rfl E2
theorem do_old (w : World) (B t b : Nat) (M : BkM) (g o lc : Nat) (last : Int) (RA : Option Addr) (rc : Nat) (rep : List UInt8) (h : Tab1 w B t b M g o lc last RA rc rep) (hB : B ≤ w.heap.size) (hl : last ≤ 9223372036854775000) (seq : Int) (h0 : 0 ≤ seq) (h1 : seq < last) (cmd : List UInt8) (A : Option Addr) (c : Nat) :
 Calls Tryz.prog 50 #[.pointer (some ⟨t, 0, none⟩), .int .i64 0, .agg (rcel ⟨2, 1, seq, 0, cmd⟩ A c).toArray] w fun e w' => qF w B t (some (last, rep)) M.abs ⟨11, 0, 0, []⟩ e w' := by
 have d0 : (seq == last) = false := by rw [zC]; omega
 have d1 : decide (seq ≤ last) = true := zc (by omega)
 obtain ⟨rz, hrz⟩ : ∃ z, z = rcel ⟨2, 1, seq, 0, cmd⟩ A c := ⟨_, rfl⟩
 rw [← hrz]
 obtain ⟨W, hW⟩ : ∃ W, (w.alloc (.cells rz.toArray 67)).alloc (.cells #[.int .i64 0, .int .i64 0, .int .i64 0, .slice none 0 0] 73) = W := ⟨_, rfl⟩
 have HFW : Hid (Fresh w W) := zh (by rw [← hW]; exact (jC _ _).trans (jC _ _))
 have HRQ : Hid (Blk W w.heap.size 67 rz.toArray) := zh (by rw [← hW]; exact (Blk.new _ _ _).alloc _)
 have HTD : Hid (Blk W (w.heap.size + 1) 73 #[.int .i64 0, .int .i64 0, .int .i64 0, .slice none 0 0]) := zh (by rw [← hW]; have := Blk.new (w.alloc (.cells rz.toArray 67)) 73 #[.int .i64 0, .int .i64 0, .int .i64 0, .slice none 0 0]; rw [zJ] at this; exact this)
 have HT : Hid (Tab1 W B t b M g o lc last RA rc rep) := zh (h.fresh HFW.out)
 have y1 : W.cell? ⟨t, 1, none⟩ = some (.slice (some ⟨g, o, none⟩) 1 lc) := HT.out.blk.cell 1
 obtain ⟨sz, hsz⟩ : ∃ z : List Value, z = [.int .i64 1, .int .i64 3, .int .i64 last, .slice RA rep.length rc] := ⟨_, rfl⟩
 have HSR : Hid (W.rangeAt g o sz) := zh (by rw [hsz]; intro j v hv; have hj : j < ([.int .i64 1, .int .i64 3, .int .i64 last, .slice RA rep.length rc] : List Value).length := (List.getElem?_eq_some_iff.1 hv).1; rw [HT.out.sl.cell hj, ← hv]; exact (zH hj).symm)
 have HSI : Hid ((Tryz.prog.info? 140).map (·.size) = some sz.length) := zh (by rw [hsz]; kernel_rfl)
 have HSJ : Hid ((Tryz.prog.info? 140).map (·.size) = some sz.toArray.size) := zh (by rw [hsz]; kernel_rfl)
 have HSO : Hid (sz.toArray.all (·.oneCell') = true) := zh (by rw [hsz]; kernel_rfl)
 obtain ⟨U, hU⟩ : ∃ U, W.alloc (.cells #[.int .i64 0, .int .i64 0, .int .i64 0, .slice none 0 0] 140) = U := ⟨_, rfl⟩
 have HBU : Hid (Blk U W.heap.size 140 #[.int .i64 0, .int .i64 0, .int .i64 0, .slice none 0 0]) := zh (by rw [← hU]; exact Blk.new _ _ _)
 have HTHU : Hid (U.there W.heap.size 0 sz.toArray.size) := zh (by rw [hsz]; exact HBU.out.there rfl)
 obtain ⟨V, hV⟩ : ∃ V, U.setCells W.heap.size 0 sz = V := ⟨_, rfl⟩
 have HFV : Hid (Fresh W V) := zh (by rw [← hV, ← hU]; exact (jC _ _).trans' (jE W.heap.size sz 0 _) (fun k hk e => by omega))
 have HSV : Hid (Blk V W.heap.size 140 sz.toArray) := zh (by rw [← hV]; exact jG HBU.out (by rw [hsz]; rfl))
 have HTV := zh (HT.out.fresh HFV.out)
 have HRV := zh (HRQ.out.frm HFV.out (fun f => f))
 have HDV := zh (HTD.out.frm HFV.out (fun f => f))
 have HFX := zh (HFW.out.trans HFV.out)
 have hqw : w.heap.size + 2 = W.heap.size := by rw [← hW]; simp
 have v1 : V.cell? ⟨w.heap.size, 1, none⟩ = some (.int .i64 1) := by rw [HRV.out.cell 1, hrz]; rfl
 have v2 : V.cell? ⟨w.heap.size, 2, none⟩ = some (.int .i64 seq) := by rw [HRV.out.cell 2, hrz]; rfl
 have v4 : V.cell? ⟨w.heap.size, 4, none⟩ = some (.slice A cmd.length c) := by rw [HRV.out.cell 4, hrz]; rfl
 have u2 : V.cell? ⟨W.heap.size, 2, none⟩ = some (.int .i64 last) := by rw [HSV.out.cell 2, hsz]; rfl
 have u3 : V.cell? ⟨W.heap.size, 3, none⟩ = some (.slice RA rep.length rc) := by rw [HSV.out.cell 3, hsz]; rfl
 clear h hrz hsz
 go_in
 go_upto_region 1 with fail
 try rw [hW]
 clear hW
 go_upto_region 2 with (first | (refine zM rfl 140 (.tmp 16) rfl g o rfl sz _ HSR.out Tryz.underlying140 rfl HSI.out ?_) | (refine zd rfl 140 (.tmp 7) (.tmp 17) rfl W.heap.size 0 sz.toArray rfl rfl HTHU.out HSJ.out HSO.out ?_) | (rw [hU]; refine zd rfl 140 (.tmp 7) (.tmp 17) rfl W.heap.size 0 sz.toArray rfl rfl HTHU.out HSJ.out HSO.out ?_))
 try rw [hV]
 clear hV hU y1 HSR HSI HSJ HSO HBU HTHU
 obtain ⟨zs, hzs⟩ : ∃ zs : List Value, zs = [.int .i64 11, .int .i64 0, .int .i64 0, .slice none 0 0] := ⟨_, rfl⟩
 have HZ : Hid (TdZ V zs ⟨11, 0, 0, []⟩) := zh (by rw [hzs]; exact TdZ.nil _ _ _ _)
 have HZS := zh hzs
 have HTH := zh (HZ.out.there (HDV.out) rfl)
 have HZJ := zh HZ.out.info
 have HZO := zh HZ.out.one
 clear hzs
 go_wp2_with (refine zd rfl 73 (.tmp 6) (.tmp 42) rfl (w.heap.size + 1) 0 zs.toArray rfl (by rw [HZS.out]; rfl) HTH.out HZJ.out HZO.out ?_)
 obtain ⟨E1, E2⟩ := td_end (HDV.out) rfl (by omega) HZ.out (show TabS V B t (some (last, rep)) M.abs from ⟨b, M, g, o, lc, RA, rc, HTV.out, rfl⟩) (FT.of_fresh HFX.out)
 exact zi (v := .agg zs.toArray) (td_res Tryz.results50 rfl E1 HZ.out) rfl E2
end
end Go.Proofs.YtnmokpbomeamfaaGreat

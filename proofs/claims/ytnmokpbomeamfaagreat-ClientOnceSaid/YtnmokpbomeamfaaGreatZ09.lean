/- Proved here, for the statement ClientOnceSaid: laws that its walk leans on. It holds with no condition. (Put together and shortened by a program out of many texts: On24, On25, On26.) -/
import Derived.Test.YtnmokpbomeamfaaGreatZ08
import Derived.Deep.Cut
set_option linter.unusedVariables false
set_option maxRecDepth 100000
set_option maxHeartbeats 64000000
namespace Go.Proofs.YtnmokpbomeamfaaGreat
section
open Go.RowKit QueueM
theorem Blk.there {w : World} {q : Nat} {t : TypeId} {cs : Array Value} (h : Blk w q t cs) {n : Nat} (hn : n = cs.size) : w.there q 0 n := fun i hi => ⟨h.has (by omega), h.frozen _⟩
theorem Blk.range {w : World} {q : Nat} {t : TypeId} {cs : List Value} (h : Blk w q t cs.toArray) : w.rangeAt q 0 cs := fun j u hu => by
 rw [h.cell, Nat.zero_add]
 simpa using hu
structure BookOk (n : Nat) (x : Book) : Prop where
 few : x.fs.length ≤ 8
 fl : ∀ p ∈ x.fs, FlOk p.f ∧ QueueM.Good p.q
 nums : (x.fs.map (fun p => p.f.num)).Nodup
 things : (x.fs.map (fun p => p.f.hs.length + p.q.length)).sum ≤ n
 len : x.l.length ≤ n
 next : 1 ≤ x.next ∧ x.next ≤ (n : Int) + 1
 now : 0 ≤ x.now ∧ x.now ≤ 1099511627776
 ids : (x.l.map (·.id)).Nodup
 bk : ∀ y ∈ x.l, (1 ≤ y.id ∧ y.id < x.next) ∧ (0 ≤ y.fl ∧ y.fl ≤ 9999) ∧ (0 ≤ y.cl ∧ y.cl ≤ 9999) ∧ (0 ≤ y.mn ∧ y.mn ≤ 9999) ∧ (1 ≤ y.st ∧ y.st ≤ 3) ∧ (0 ≤ y.un ∧ y.un ≤ 1099511627776) ∧ ∃ p ∈ x.fs, p.f.num = y.fl
 wait : ∀ p ∈ x.fs, ∀ v ∈ p.q, ∃ y ∈ x.l, y.id = v.id ∧ y.fl = p.f.num ∧ y.st = 3
theorem le_sum_mem : ∀ (l : List Nat) (a : Nat), a ∈ l → a ≤ l.sum
 | x :: r, a, h => by
  rw [List.sum_cons]
  rcases zU.1 h with rfl | h
  ·omega
  ·have := le_sum_mem r a h
   omega
theorem BookOk.flight {n : Nat} {x : Book} (h : BookOk n x) {y : Bk} (hy : y ∈ x.l) : ∃ k : Nat, qL y.fl x = (k : Int) ∧ k < x.fs.length := by
 obtain ⟨_, _, _, _, _, _, p, hp, he⟩ := h.bk y hy
 unfold qL
 rcases jY (fun p : Pl => p.f.num) y.fl x.fs 0 with ⟨_, h2⟩ | ⟨k, h1, h2, _⟩
 ·exact absurd he (h2 p hp)
 ·exact ⟨k, by rw [h2]; simp, h1⟩
theorem BookOk.hs {n : Nat} {x : Book} (h : BookOk n x) {p : Pl} (hp : p ∈ x.fs) : p.f.hs.length ≤ n ∧ p.q.length ≤ n := by
 have h1 := le_sum_mem _ _ (zQ.2 ⟨p, hp, rfl⟩ : p.f.hs.length + p.q.length ∈ x.fs.map (fun p => p.f.hs.length + p.q.length))
 have := h.things
 omega
theorem abs_mem {M : BkM} {k : Nat} (hk : k < M.fs.length) : M.fs[k].abs ∈ M.abs.fs := zQ.2 ⟨_, ze hk, rfl⟩
theorem abs_at {M : BkM} {k : Nat} (hk : k < M.fs.length) : plAt M.abs k = M.fs[k].abs := by
 rw [jP (by show k < (M.fs.map PlM.abs).length; rw [zB]; exact hk)]
 show (M.fs.map PlM.abs)[k]'_ = _
 rw [List.getElem_map]
theorem BookOk.at_ {n : Nat} {M : BkM} (h : BookOk n M.abs) {k : Nat} (hk : k < M.fs.length) : FlOk M.fs[k].m.abs ∧ QueueM.Good M.fs[k].ws ∧ M.fs[k].m.hs.length ≤ n ∧ M.fs[k].ws.length ≤ n := by
 have h1 := h.fl _ (abs_mem hk)
 have h2 := h.hs (abs_mem hk)
 refine ⟨h1.1, h1.2, ?_, h2.2⟩
 have : M.fs[k].abs.f.hs.length = M.fs[k].m.hs.length := by show (M.fs[k].m.hs.map Hd.abs).length = _; rw [zB]
 omega
def RepV (w : World) (B : Nat) (v : Value) (r : Rep) : Prop := ∃ A c A' c', v = .agg #[.int .i64 r.code, .string (str r.pnr), .int .i64 r.st, .int .i64 r.fl, .int .i64 r.cl, .int .i64 r.mn, .int .i64 r.tm, .slice A r.left.length c, .slice A' r.labels.length c'] ∧
 Sl w B 3 1 (.slice A r.left.length c) r.left.length (ivs r.left) ∧ Sl w B 9 1 (.slice A' r.labels.length c') r.labels.length (svs r.labels)
def ToldPost (w : World) (r : Rep) (e : Ending) (w' : World) : Prop := ∃ v, e = .returned v ∧ RepV w' w.heap.size v r ∧ Fresh w w'
theorem told18_any (w : World) (B b : Nat) (M : BkM) (n i : Nat) (h : BookAt w B b M) (hk : BookOk n M.abs) (hn : n ≤ 100) (hi : i < M.l.length) :
 Calls Tryz.prog 69 #[.pointer (some ⟨b, 0, none⟩), .int .i64 (i : Int)] w fun e w' => ToldPost w (toldA M.abs i) e w' := by
 have hml : M.abs.l = M.l := rfl
 have hbi : bkAt M.abs i = M.l[i] := by rw [bkAt_get (by rw [hml]; exact hi)]; rfl
 have hmem : M.l[i] ∈ M.abs.l := ze hi
 obtain ⟨k, hke, hkl⟩ := hk.flight hmem
 have hkm : k < M.fs.length := by
  have : M.abs.fs.length = M.fs.length := by show (M.fs.map PlM.abs).length = _; rw [zB]
  omega
 have hpa := abs_at hkm
 obtain ⟨hfo, hgo, hhs, hws⟩ := hk.at_ hkm
 have hlen : M.l.length ≤ 100 := by have := hk.len; rw [hml] at this; omega
 have hfew : M.fs.length ≤ 8 := by
  have := hk.few
  have : M.abs.fs.length = M.fs.length := by show (M.fs.map PlM.abs).length = _; rw [zB]
  omega
 obtain ⟨⟨hid1, hid2⟩, hb1, hb2, hb3, hb4, hb5, hb6⟩ := hk.bk _ hmem
 have hnx := hk.next
 have hnx2 : M.abs.next = M.next := rfl
 have HT : Hid (toldA M.abs i = ⟨0, locOf M.l[i].id.toNat, M.l[i].st, M.l[i].fl, M.l[i].cl, M.l[i].mn, M.l[i].un, leftA M.fs[k].m.abs, labelsA M.fs[k].m.abs M.l[i].id⟩) := zh (by
  unfold toldA
  rw [hbi, hke, zx, hpa]
  rfl)
 have HFL : Hid (∀ w', Fresh w w' → Calls Tryz.prog 70 #[.pointer (some ⟨b, 0, none⟩), .int .i64 M.l[i].fl] w' fun e w'' => e = .returned (.int .i64 (k : Int)) ∧ w'' = w') := zh fun w' F => by rw [← hke]; exact qD w' B b M _ (h.fresh F) hfew
 obtain ⟨idn, hidn⟩ := zA (show 0 ≤ M.l[i].id by omega)
 have HOF : Hid (∀ w', Calls Tryz.prog 83 #[.int .i64 M.l[i].id] w' fun e w'' => OfPost w' (locOf M.l[i].id.toNat) e w'') := zh fun w' => by
  rw [hidn]
  exact of_any w' idn (by omega)
 have HLE : Hid (∀ w', Fresh w w' → Calls Tryz.prog 71 #[.pointer (some ⟨M.fs[k].f, 0, none⟩)] w' fun e w'' => OwnL w' (leftA M.fs[k].m.abs) e w'') := zh fun w' F => left15_any w' B _ _ ((h.fresh F).fl _ (ze hkm)).1 (by omega) hfo.few.2 hfo.mn hfo.cl
 have HLB : Hid (∀ w', Fresh w w' → Calls Tryz.prog 84 #[.pointer (some ⟨M.fs[k].f, 0, none⟩), .int .i64 M.l[i].id] w' fun e w'' => OwnS w' (labelsA M.fs[k].m.abs M.l[i].id) e w'') := zh fun w' F => labels15_any w' B _ _ _ ((h.fresh F).fl _ (ze hkm)).1 hfo (by omega)
 have HY2 : Hid (∀ w', Fresh w w' → w'.cell? ⟨b, 2, none⟩ = some (.slice M.FA M.fs.length M.fc)) := zh fun w' F => (h.fresh F).blk.cell 2
 have HY3 : Hid (∀ w', Fresh w w' → w'.cell? ⟨b, 3, none⟩ = some (.slice M.LA M.l.length M.lc)) := zh fun w' F => (h.fresh F).blk.cell 3
 obtain ⟨g, o, hFA, hgl, hp0, hp1⟩ := h.place hkm
 obtain ⟨g2, o2, hLA, hgl2, hs0, hs1, hs2, hs3, hs4, hs5⟩ := h.bk hi
 have HP : Hid (∀ w', Fresh w w' → w'.cell? ⟨g, o + k * 2, none⟩ = some (.pointer (some ⟨M.fs[k].f, 0, none⟩)) ∧ w'.cell? ⟨g, o + k * 2 + 1, none⟩ = some (.pointer (some ⟨M.fs[k].q, 0, none⟩))) := zh fun w' F => ⟨(F.cell (p := ⟨g, o + k * 2, none⟩) hgl (fun f => f)).trans hp0, (F.cell (p := ⟨g, o + k * 2 + 1, none⟩) hgl (fun f => f)).trans hp1⟩
 have HS : Hid (∀ w', Fresh w w' → SixB w' g2 (o2 + i * 6) M.l[i]) := zh fun w' F => ⟨(F.cell (p := ⟨g2, o2 + i * 6, none⟩) hgl2 (fun f => f)).trans hs0, (F.cell (p := ⟨g2, o2 + i * 6 + 1, none⟩) hgl2 (fun f => f)).trans hs1, (F.cell (p := ⟨g2, o2 + i * 6 + 2, none⟩) hgl2 (fun f => f)).trans hs2, (F.cell (p := ⟨g2, o2 + i * 6 + 3, none⟩) hgl2 (fun f => f)).trans hs3, (F.cell (p := ⟨g2, o2 + i * 6 + 4, none⟩) hgl2 (fun f => f)).trans hs4, (F.cell (p := ⟨g2, o2 + i * 6 + 5, none⟩) hgl2 (fun f => f)).trans hs5⟩
 rw [hFA] at HY2
 rw [hLA] at HY3
 rw [HT.out]
 clear HT hpa hke hbi hmem hfo hgo hhs hws hid1 hid2 hb1 hb2 hb3 hb4 hb5 hb6 hnx hnx2 hidn hp0 hp1 hs0 hs1 hs2 hs3 hs4 hs5 hFA hLA hk h hkl
 generalize M.fs[k].m.abs = mk at HLE HLB ⊢
 generalize M.fs[k].f = fk at HP HLE HLB
 generalize M.fs[k].q = qk at HP
 generalize leftA mk = lf at HLE ⊢
 generalize M.l[i] = y at HFL HOF HLB HS ⊢
 obtain ⟨yi, yf, yc, ym, ys, yu⟩ := y
 unfold SixB at HS
 dsimp only at HFL HOF HLB HS ⊢
 generalize labelsA mk yi = lb at HLB ⊢
 generalize locOf yi.toNat = loc at HOF ⊢
 generalize M.fs.length = fn at HY2 hkm hfew
 generalize M.l.length = ln at HY3 hi hlen
 generalize M.fc = fc at HY2
 generalize M.lc = lc at HY3
 have i0 : (0 : Int) ≤ (i : Int) := by omega
 have i1 : (i : Int) < (ln : Int) := by omega
 have k0 : (0 : Int) ≤ (k : Int) := by omega
 have k1 : (k : Int) < (fn : Int) := by omega
 obtain ⟨W, hW⟩ : ∃ W, w.alloc (.cells #[.int .i64 0, .string ⟨#[]⟩, .int .i64 0, .int .i64 0, .int .i64 0, .int .i64 0, .int .i64 0, .slice none 0 0, .slice none 0 0] 106) = W := ⟨_, rfl⟩
 have HFW : Hid (Fresh w W) := zh (by rw [← hW]; exact jC _ _)
 have BW : Hid (Blk W w.heap.size 106 #[.int .i64 0, .string ⟨#[]⟩, .int .i64 0, .int .i64 0, .int .i64 0, .int .i64 0, .int .i64 0, .slice none 0 0, .slice none 0 0]) := zh (by rw [← hW]; exact Blk.new _ _ _)
 have z3 := HY3.out W HFW.out
 obtain ⟨c0, c1, c2, c3, c4, c5⟩ := HS.out W HFW.out
 go_in
 go_wp2_with fail
 try rw [hW]
 clear z3 c0 c1 c2 c3 c4 c5 hW
 obtain ⟨X, hX⟩ : ∃ X, W.alloc (.cells #[.int .i64 yi, .int .i64 yf, .int .i64 yc, .int .i64 ym, .int .i64 ys, .int .i64 yu] 146) = X := ⟨_, rfl⟩
 have HFX : Hid (Fresh W X) := zh (by rw [← hX]; exact jC _ _)
 have BX : Hid (Blk X W.heap.size 146 #[.int .i64 yi, .int .i64 yf, .int .i64 yc, .int .i64 ym, .int .i64 ys, .int .i64 yu]) := zh (by rw [← hX]; exact Blk.new _ _ _)
 rw [hX]
 clear hX
 have HFXW : Hid (Fresh w X) := zh (HFW.out.trans HFX.out)
 have HC2 : Hid (∀ w', Fresh X w' → w'.cell? ⟨b, 2, none⟩ = some (.slice (some ⟨g, o, none⟩) fn fc) ∧ w'.cell? ⟨W.heap.size, 1, none⟩ = some (.int .i64 yf) ∧ w'.cell? ⟨g, o + k * 2, none⟩ = some (.pointer (some ⟨fk, 0, none⟩)) ∧ w'.cell? ⟨g, o + k * 2 + 1, none⟩ = some (.pointer (some ⟨qk, 0, none⟩))) := zh fun w' F => ⟨HY2.out w' (HFXW.out.trans F), (BX.out.frm F (fun f => f)).cell 1, (HP.out w' (HFXW.out.trans F)).1, (HP.out w' (HFXW.out.trans F)).2⟩
 refine Code.wp_mono (Q := fun e a w' => e = .normal ∧ a = ⟨#[Value.pointer (some { block := b, off := 0 }), Value.int IntKind.i64 ↑i, undef, undef, Value.pointer (some { block := w.heap.size, off := 0 }), Value.pointer (some { block := W.heap.size, off := 0 }), Value.pointer (some { block := X.heap.size, off := 0 }), undef, undef, undef, Value.pointer (some { block := b, off := 0 }), Value.pointer (some { block := b, off := 0 }), Value.pointer (some { block := b, off := 3 }), Value.slice (some { block := g2, off := o2 }) ln lc, Value.int IntKind.i64 ↑i, Value.pointer (some { block := g2, off := o2 + i * 6 }), Value.agg #[Value.int IntKind.i64 yi, Value.int IntKind.i64 yf, Value.int IntKind.i64 yc, Value.int IntKind.i64 ym, Value.int IntKind.i64 ys, Value.int IntKind.i64 yu], Value.pointer (some { block := b, off := 0 }), Value.pointer (some { block := b, off := 0 }), Value.pointer (some { block := b, off := 2 }), Value.slice (some { block := g, off := o }) fn fc, Value.pointer (some { block := b, off := 0 }), Value.pointer (some { block := W.heap.size, off := 1 }), Value.int IntKind.i64 yf, Value.int IntKind.i64 ↑k, Value.pointer (some { block := g, off := o + k * 2 }), Value.agg #[Value.pointer (some { block := fk, off := 0 }), Value.pointer (some { block := qk, off := 0 })], undef, undef, undef, undef, undef, undef, undef, undef, undef, undef, undef, undef, undef, undef, undef, undef, undef, undef, undef, undef, undef, undef, undef, undef, undef, undef, undef, undef], []⟩ ∧ Blk w' X.heap.size 134 #[.pointer (some ⟨fk, 0, none⟩), .pointer (some ⟨qk, 0, none⟩)] ∧ Fresh X w') ?_ ?_
 rotate_left 1
 ·refine zj (S := (fun w' => w'.cell? ⟨b, 2, none⟩ = some (.slice (some ⟨g, o, none⟩) fn fc) ∧ w'.cell? ⟨W.heap.size, 1, none⟩ = some (.int .i64 yf) ∧ w'.cell? ⟨g, o + k * 2, none⟩ = some (.pointer (some ⟨fk, 0, none⟩)) ∧ w'.cell? ⟨g, o + k * 2 + 1, none⟩ = some (.pointer (some ⟨qk, 0, none⟩)))) (by kernel_rfl) (HC2.out _ ((za _ X).drew)) (fun hHeld => ?_)
  iterate 7 ((first | refine ztn (v := ?_) (zo rfl) ?_ | refine ztz (v := ?_) (zo rfl) ?_); try simp only [Act.put, zT, zZ, zS])
  refine zr2 7 10 (zo rfl) (zo rfl) (fun K hK => ?_) (fun K hK => ?_)
  ·go_simp
   refine (HFL.out (X.drew) (HFXW.out.trans ((za _ X).drew))).mono ?_
   rintro e w2 ⟨rfl, hw2⟩
   rw [hw2]
   clear hw2 w2
   refine hK.out _ _ (HC2.out _ ((za _ X).drew)) (fun hHeld => ?_)
   clear hK K
   try simp only [Act.put, zT, zZ, zS]
   (refine zt 8 (v := ?_) (zo rfl) ?_; try simp only [Act.put, zT, zZ, zS])
   iterate 1 (refine ztn (v := ?_) (zo rfl) ?_; try simp only [Act.put, zT, zZ, zS])
   refine zr1 10 (zo rfl) (fun K hK => ?_)
   go_simp
   have HB6 := zh (Blk.new X.drew 134 #[.pointer none, .pointer none])
   have HF6 : Hid (Fresh X ((X.drew.alloc (.cells #[.pointer none, .pointer none] 134)).setCells X.heap.size 0 [.pointer (some ⟨fk, 0, none⟩), .pointer (some ⟨qk, 0, none⟩)])) := zh (((za (fun _ => False) X).drew.alloc _).trans' (jE X.heap.size _ 0 _) (fun k hk e => by omega))
   have HB7 := zh (jG HB6.out (vs := [.pointer (some ⟨fk, 0, none⟩), .pointer (some ⟨qk, 0, none⟩)]) rfl)
   refine hK.out _ _ (HC2.out _ (((za _ X).drew).alloc _)) (fun hHeld => ?_)
   clear hK K
   try simp only [Act.put, zT, zZ, zS]
   refine zr1 11 (zo rfl) (fun K hK => ?_)
   rw [zl (by rfl)]
   refine wp_store_mid _ _ _ rfl _ 0 #[.pointer (some ⟨fk, 0, none⟩), .pointer (some ⟨qk, 0, none⟩)] rfl rfl (HB6.out.there rfl) (by kernel_rfl) (by kernel_rfl) ?_
   refine hK.out _ _ (HC2.out _ HF6.out) (fun hHeld => ?_)
   clear hK K
   try simp only [Act.put, zT, zZ, zS]
   refine wpAnyH_done (by kernel_rfl) ?_ _
   exact ⟨rfl, rfl, HB7.out, HF6.out⟩
  ·go_simp
   have HB6 := zh (Blk.new X.drew 134 #[.pointer none, .pointer none])
   have HF6 : Hid (Fresh X ((X.drew.alloc (.cells #[.pointer none, .pointer none] 134)).setCells X.heap.size 0 [.pointer (some ⟨fk, 0, none⟩), .pointer (some ⟨qk, 0, none⟩)])) := zh (((za (fun _ => False) X).drew.alloc _).trans' (jE X.heap.size _ 0 _) (fun k hk e => by omega))
   have HB7 := zh (jG HB6.out (vs := [.pointer (some ⟨fk, 0, none⟩), .pointer (some ⟨qk, 0, none⟩)]) rfl)
   refine hK.out _ _ (HC2.out _ (((za _ X).drew).alloc _)) (fun hHeld => ?_)
   clear hK K
   try simp only [Act.put, zT, zZ, zS]
   refine zr1 7 (zo rfl) (fun K hK => ?_)
   go_simp
   refine (HFL.out (X.drew.alloc (.cells #[.pointer none, .pointer none] 134)) (HFXW.out.trans (((za _ X).drew).alloc _))).mono ?_
   rintro e w2 ⟨rfl, hw2⟩
   rw [hw2]
   clear hw2 w2
   refine hK.out _ _ (HC2.out _ (((za _ X).drew).alloc _)) (fun hHeld => ?_)
   clear hK K
   try simp only [Act.put, zT, zZ, zS]
   iterate 2 (refine ztn (v := ?_) (zo rfl) ?_; try simp only [Act.put, zT, zZ, zS])
   refine zr1 11 (zo rfl) (fun K hK => ?_)
   rw [zl (by rfl)]
   refine wp_store_mid _ _ _ rfl _ 0 #[.pointer (some ⟨fk, 0, none⟩), .pointer (some ⟨qk, 0, none⟩)] rfl rfl (HB6.out.there rfl) (by kernel_rfl) (by kernel_rfl) ?_
   refine hK.out _ _ (HC2.out _ HF6.out) (fun hHeld => ?_)
   clear hK K
   try simp only [Act.put, zT, zZ, zS]
   refine wpAnyH_done (by kernel_rfl) ?_ _
   exact ⟨rfl, rfl, HB7.out, HF6.out⟩
 rintro e a Y ⟨rfl, rfl, hby, hfy⟩
 have BY := zh hby
 have HFY := zh hfy
 clear hby hfy HC2
 have HFYW : Hid (Fresh w Y) := zh (HFXW.out.trans HFY.out)
 have BXY : Hid (Blk Y W.heap.size 146 #[.int .i64 yi, .int .i64 yf, .int .i64 yc, .int .i64 ym, .int .i64 ys, .int .i64 yu]) := zh (BX.out.frm HFY.out (fun f => f))
 have x0 : Y.cell? ⟨W.heap.size, 0, none⟩ = some (.int .i64 yi) := BXY.out.cell 0
 go_wp2_with fail
 refine (HOF.out Y).mono ?_
 rintro e Z ⟨rfl, f3⟩
 have HYZ := zh f3
 have HFZ : Hid (Fresh w Z) := zh (HFYW.out.trans f3)
 have BXZ := zh (BXY.out.frm f3 (fun f => f))
 have BYZ := zh (BY.out.frm f3 (fun f => f))
 have HC4 : Hid (∀ w', Fresh Z w' → w'.cell? ⟨W.heap.size, 1, none⟩ = some (.int .i64 yf) ∧ w'.cell? ⟨W.heap.size, 2, none⟩ = some (.int .i64 yc) ∧ w'.cell? ⟨W.heap.size, 3, none⟩ = some (.int .i64 ym) ∧ w'.cell? ⟨W.heap.size, 4, none⟩ = some (.int .i64 ys) ∧ w'.cell? ⟨W.heap.size, 5, none⟩ = some (.int .i64 yu) ∧ w'.cell? ⟨X.heap.size, 0, none⟩ = some (.pointer (some ⟨fk, 0, none⟩))) := zh fun w' F =>
  ⟨(BXZ.out.frm F (fun f => f)).cell 1, (BXZ.out.frm F (fun f => f)).cell 2, (BXZ.out.frm F (fun f => f)).cell 3, (BXZ.out.frm F (fun f => f)).cell 4, (BXZ.out.frm F (fun f => f)).cell 5, (BYZ.out.frm F (fun f => f)).cell 0⟩
 clear f3 x0 BXY BY
 go_wp2_with fail
 refine Code.wp_mono (Q := fun e a w' => e = .normal ∧ ∃ A4 c4 q, a = ⟨#[Value.pointer (some { block := b, off := 0 }), Value.int IntKind.i64 ↑i, undef, undef, Value.pointer (some { block := w.heap.size, off := 0 }), Value.pointer (some { block := W.heap.size, off := 0 }), Value.pointer (some { block := X.heap.size, off := 0 }), Value.string (str loc), Value.int IntKind.i64 0, Value.pointer (some { block := q, off := 0 }), Value.pointer (some { block := b, off := 0 }), Value.pointer (some { block := b, off := 0 }), Value.pointer (some { block := b, off := 3 }), Value.slice (some { block := g2, off := o2 }) ln lc, Value.int IntKind.i64 ↑i, Value.pointer (some { block := g2, off := o2 + i * 6 }), Value.agg #[Value.int IntKind.i64 yi, Value.int IntKind.i64 yf, Value.int IntKind.i64 yc, Value.int IntKind.i64 ym, Value.int IntKind.i64 ys, Value.int IntKind.i64 yu], Value.pointer (some { block := b, off := 0 }), Value.pointer (some { block := b, off := 0 }), Value.pointer (some { block := b, off := 2 }), Value.slice (some { block := g, off := o }) fn fc, Value.pointer (some { block := b, off := 0 }), Value.pointer (some { block := W.heap.size, off := 1 }), Value.int IntKind.i64 yf, Value.int IntKind.i64 ↑k, Value.pointer (some { block := g, off := o + k * 2 }), Value.agg #[Value.pointer (some { block := fk, off := 0 }), Value.pointer (some { block := qk, off := 0 })], Value.tuple #[Value.string (str loc), Value.int IntKind.i64 0], Value.pointer (some { block := W.heap.size, off := 0 }), Value.int IntKind.i64 yi, Value.tuple #[Value.string (str loc), Value.int IntKind.i64 0], Value.string (str loc), Value.int IntKind.i64 0, Value.string (str loc), Value.pointer (some { block := W.heap.size, off := 4 }), Value.int IntKind.i64 ys, Value.pointer (some { block := W.heap.size, off := 1 }), Value.int IntKind.i64 yf, Value.pointer (some { block := W.heap.size, off := 2 }), Value.int IntKind.i64 yc, Value.pointer (some { block := W.heap.size, off := 3 }), Value.int IntKind.i64 ym, Value.pointer (some { block := W.heap.size, off := 5 }), Value.int IntKind.i64 yu, Value.pointer (some { block := X.heap.size, off := 0 }), Value.pointer (some { block := fk, off := 0 }), Value.slice A4 lf.length c4, Value.agg #[Value.int IntKind.i64 0, Value.string (str loc), Value.int IntKind.i64 ys, Value.int IntKind.i64 yf, Value.int IntKind.i64 yc, Value.int IntKind.i64 ym, Value.int IntKind.i64 yu, Value.slice A4 lf.length c4, Value.slice none 0 0], undef, undef, undef, undef, undef, undef, undef], []⟩ ∧ Blk w' q 106 #[.int .i64 0, .string (str loc), .int .i64 ys, .int .i64 yf, .int .i64 yc, .int .i64 ym, .int .i64 yu, .slice A4 lf.length c4, .slice none 0 0] ∧ Sl w' w.heap.size 3 1 (.slice A4 lf.length c4) lf.length (ivs lf) ∧ Fresh Z w' ∧ Z.heap.size ≤ q) ?_ ?_
 rotate_left 1
 ·refine zj (S := (fun w' => w'.cell? ⟨W.heap.size, 1, none⟩ = some (.int .i64 yf) ∧ w'.cell? ⟨W.heap.size, 2, none⟩ = some (.int .i64 yc) ∧ w'.cell? ⟨W.heap.size, 3, none⟩ = some (.int .i64 ym) ∧ w'.cell? ⟨W.heap.size, 4, none⟩ = some (.int .i64 ys) ∧ w'.cell? ⟨W.heap.size, 5, none⟩ = some (.int .i64 yu) ∧ w'.cell? ⟨X.heap.size, 0, none⟩ = some (.pointer (some ⟨fk, 0, none⟩)))) (by kernel_rfl) (HC4.out _ ((za _ Z).drew)) (fun hHeld => ?_)
  iterate 13 ((first | refine ztn (v := ?_) (zo rfl) ?_ | refine ztz (v := ?_) (zo rfl) ?_); try simp only [Act.put, zT, zZ, zS])
  refine zr2 13 15 (zo rfl) (zo rfl) (fun K hK => ?_) (fun K hK => ?_)
  ·go_simp
   refine (HLE.out (Z.drew) (HFZ.out.trans ((za _ Z).drew))).mono ?_
   rintro e w4 ⟨v4, rfl, s4, f4⟩
   obtain ⟨A4, c4, rfl, _⟩ := s4.shape
   have HS4 := zh s4
   have HF4 : Hid (Fresh Z w4) := zh (((za _ Z).drew).trans f4)
   clear s4 f4
   refine hK.out _ _ (HC4.out _ HF4.out) (fun hHeld => ?_)
   clear hK K
   try simp only [Act.put, zT, zZ, zS]
   (refine zt 14 (v := ?_) (zo rfl) ?_; try simp only [Act.put, zT, zZ, zS])
   refine zr1 15 (zo rfl) (fun K hK => ?_)
   go_simp
   have HB9 := zh (Blk.new w4 106 #[.int .i64 0, .string ⟨#[]⟩, .int .i64 0, .int .i64 0, .int .i64 0, .int .i64 0, .int .i64 0, .slice none 0 0, .slice none 0 0])
   have HF9 := zh (HF4.out.alloc (.cells #[.int .i64 0, .string ⟨#[]⟩, .int .i64 0, .int .i64 0, .int .i64 0, .int .i64 0, .int .i64 0, .slice none 0 0, .slice none 0 0] 106))
   have HQ9 : Hid (Z.heap.size ≤ w4.heap.size) := zh HF4.out.size
   have HSL9 : Hid (Sl ((w4.alloc (.cells #[.int .i64 0, .string ⟨#[]⟩, .int .i64 0, .int .i64 0, .int .i64 0, .int .i64 0, .int .i64 0, .slice none 0 0, .slice none 0 0] 106)).setCells w4.heap.size 0 [.int .i64 0, .string (str loc), .int .i64 ys, .int .i64 yf, .int .i64 yc, .int .i64 ym, .int .i64 yu, .slice A4 lf.length c4, .slice none 0 0]) w.heap.size 3 1 (.slice A4 lf.length c4) lf.length (ivs lf)) := zh (((HS4.out.less HFZ.out.size).alloc _).frm (jE w4.heap.size _ 0 _) (fun k hk e => by have := (HS4.out.lt k hk).2; omega))
   refine hK.out _ _ (HC4.out _ HF9.out) (fun hHeld => ?_)
   clear hK K
   try simp only [Act.put, zT, zZ, zS]
   refine zr1 16 (zo rfl) (fun K hK => ?_)
   rw [zl (by rfl)]
   refine wp_store_mid _ _ _ rfl _ 0 #[.int .i64 0, .string (str loc), .int .i64 ys, .int .i64 yf, .int .i64 yc, .int .i64 ym, .int .i64 yu, .slice A4 lf.length c4, .slice none 0 0] rfl rfl (HB9.out.there rfl) (by kernel_rfl) (by kernel_rfl) ?_
   have HB10 := zh (jG HB9.out (vs := [.int .i64 0, .string (str loc), .int .i64 ys, .int .i64 yf, .int .i64 yc, .int .i64 ym, .int .i64 yu, .slice A4 lf.length c4, .slice none 0 0]) rfl)
   have HF10 := zh (HF9.out.trans' (jE w4.heap.size [.int .i64 0, .string (str loc), .int .i64 ys, .int .i64 yf, .int .i64 yc, .int .i64 ym, .int .i64 yu, .slice A4 lf.length c4, .slice none 0 0] 0 (w4.alloc (.cells #[.int .i64 0, .string ⟨#[]⟩, .int .i64 0, .int .i64 0, .int .i64 0, .int .i64 0, .int .i64 0, .slice none 0 0, .slice none 0 0] 106))) (fun k hk e => by have := HQ9.out; omega))
   refine hK.out _ _ (HC4.out _ HF10.out) (fun hHeld => ?_)
   clear hK K
   try simp only [Act.put, zT, zZ, zS]
   refine wpAnyH_done (by kernel_rfl) ?_ _
   exact ⟨rfl, A4, c4, _, rfl, HB10.out, HSL9.out, HF10.out, HQ9.out⟩
  ·go_simp
   have HB8 := zh (Blk.new Z.drew 106 #[.int .i64 0, .string ⟨#[]⟩, .int .i64 0, .int .i64 0, .int .i64 0, .int .i64 0, .int .i64 0, .slice none 0 0, .slice none 0 0])
   refine hK.out _ _ (HC4.out _ (((za _ Z).drew).alloc _)) (fun hHeld => ?_)
   clear hK K
   try simp only [Act.put, zT, zZ, zS]
   refine zr1 13 (zo rfl) (fun K hK => ?_)
   go_simp
   refine (HLE.out (Z.drew.alloc (.cells #[.int .i64 0, .string ⟨#[]⟩, .int .i64 0, .int .i64 0, .int .i64 0, .int .i64 0, .int .i64 0, .slice none 0 0, .slice none 0 0] 106)) (HFZ.out.trans (((za _ Z).drew).alloc _))).mono ?_
   rintro e w4 ⟨v4, rfl, s4, f4⟩
   obtain ⟨A4, c4, rfl, _⟩ := s4.shape
   have HS4 := zh s4
   have HF4 : Hid (Fresh Z w4) := zh ((((za _ Z).drew).alloc _).trans f4)
   have HB9 := zh (HB8.out.frm f4 (fun f => f))
   have HF9 := HF4
   have HQ9 : Hid (Z.heap.size ≤ Z.heap.size) := zh (zf _)
   have HSL9 : Hid (Sl (w4.setCells Z.heap.size 0 [.int .i64 0, .string (str loc), .int .i64 ys, .int .i64 yf, .int .i64 yc, .int .i64 ym, .int .i64 yu, .slice A4 lf.length c4, .slice none 0 0]) w.heap.size 3 1 (.slice A4 lf.length c4) lf.length (ivs lf)) := zh ((HS4.out.less (by have := HFZ.out.size; simp; omega)).frm (jE Z.heap.size _ 0 _) (fun k hk e => by have := (HS4.out.lt k hk).1; simp at this; omega))
   clear s4 f4
   refine hK.out _ _ (HC4.out _ HF4.out) (fun hHeld => ?_)
   clear hK K
   try simp only [Act.put, zT, zZ, zS]
   (refine ztn (v := ?_) (zo rfl) ?_; try simp only [Act.put, zT, zZ, zS])
   refine zr1 16 (zo rfl) (fun K hK => ?_)
   rw [zl (by rfl)]
   refine wp_store_mid _ _ _ rfl _ 0 #[.int .i64 0, .string (str loc), .int .i64 ys, .int .i64 yf, .int .i64 yc, .int .i64 ym, .int .i64 yu, .slice A4 lf.length c4, .slice none 0 0] rfl rfl (HB9.out.there rfl) (by kernel_rfl) (by kernel_rfl) ?_
   have HB10 := zh (jG HB9.out (vs := [.int .i64 0, .string (str loc), .int .i64 ys, .int .i64 yf, .int .i64 yc, .int .i64 ym, .int .i64 yu, .slice A4 lf.length c4, .slice none 0 0]) rfl)
   have HF10 := zh (HF9.out.trans' (jE Z.heap.size [.int .i64 0, .string (str loc), .int .i64 ys, .int .i64 yf, .int .i64 yc, .int .i64 ym, .int .i64 yu, .slice A4 lf.length c4, .slice none 0 0] 0 (w4)) (fun k hk e => by have := HQ9.out; omega))
   refine hK.out _ _ (HC4.out _ HF10.out) (fun hHeld => ?_)
   clear hK K
   try simp only [Act.put, zT, zZ, zS]
   refine wpAnyH_done (by kernel_rfl) ?_ _
   exact ⟨rfl, A4, c4, _, rfl, HB10.out, HSL9.out, HF10.out, HQ9.out⟩
 rintro e a V ⟨rfl, A4, c4, q, rfl, hbq, hsq, hfq, hqq⟩
 have BQ := zh hbq
 have HSQ := zh hsq
 have HFQ := zh hfq
 have HQW : Hid (w.heap.size < q) := zh (by have h1 := BW.out.lt; have h2 := HFX.out.size; have h3 := HFY.out.size; have h4 := HFZ.out.size; have h5 := BXZ.out.lt; have h6 := BYZ.out.lt; omega)
 have HBWV : Hid (Blk V w.heap.size 106 #[.int .i64 0, .string ⟨#[]⟩, .int .i64 0, .int .i64 0, .int .i64 0, .int .i64 0, .int .i64 0, .slice none 0 0, .slice none 0 0]) := zh ((((BW.out.frm HFX.out (fun f => f)).frm HFY.out (fun f => f)).frm HYZ.out (fun f => f)).frm hfq (fun f => f))
 clear hbq hsq hfq hqq HC4
 have HFV := zh (HFZ.out.trans HFQ.out)
 have HLB5 := zh (HLB.out V HFV.out)
 have v0 : V.cell? ⟨X.heap.size, 0, none⟩ = some (.pointer (some ⟨fk, 0, none⟩)) := (BYZ.out.frm HFQ.out (fun f => f)).cell 0
 have v1 : V.cell? ⟨W.heap.size, 0, none⟩ = some (.int .i64 yi) := (BXZ.out.frm HFQ.out (fun f => f)).cell 0
 go_wp2_with fail
 refine HLB5.out.mono ?_
 rintro e V2 ⟨vl, rfl, sl5, f5⟩
 obtain ⟨A5, c5, rfl, _⟩ := sl5.shape
 have HSL5 := zh sl5
 have HF5 := zh f5
 have hb5 := BQ.out.frm f5 (fun f => f)
 have u8 : V2.cell? ⟨q, 8, none⟩ = some (.slice none 0 0) := hb5.cell 8
 have z8 := hb5.frozen 8
 have BQ2 : Hid (Blk (V2.setCell ⟨q, 8, none⟩ (.slice A5 lb.length c5)) q 106 #[.int .i64 0, .string (str loc), .int .i64 ys, .int .i64 yf, .int .i64 yc, .int .i64 ym, .int .i64 yu, .slice A4 lf.length c4, .slice A5 lb.length c5]) := zh (hb5.set 8 _)
 have HTW : Hid (Blk (V2.setCell ⟨q, 8, none⟩ (.slice A5 lb.length c5)) w.heap.size 106 #[.int .i64 0, .string ⟨#[]⟩, .int .i64 0, .int .i64 0, .int .i64 0, .int .i64 0, .int .i64 0, .slice none 0 0, .slice none 0 0]) := zh (((HBWV.out.frm f5 (fun f => f))).far (p := ⟨q, 8, none⟩) (by have := HQW.out; show w.heap.size ≠ q; omega) _)
 obtain ⟨zs, hzs⟩ : ∃ zs : List Value, zs = [.int .i64 0, .string (str loc), .int .i64 ys, .int .i64 yf, .int .i64 yc, .int .i64 ym, .int .i64 yu, .slice A4 lf.length c4, .slice A5 lb.length c5] := ⟨_, rfl⟩
 have HZS := zh hzs
 have HZI : Hid ((Tryz.prog.info? 106).map (·.size) = some zs.length) := zh (by rw [hzs]; kernel_rfl)
 have HZJ : Hid ((Tryz.prog.info? 106).map (·.size) = some zs.toArray.size) := zh (by rw [hzs]; kernel_rfl)
 have HZO : Hid (zs.toArray.all (·.oneCell') = true) := zh (by rw [hzs]; kernel_rfl)
 have HRQ : Hid ((V2.setCell ⟨q, 8, none⟩ (.slice A5 lb.length c5)).rangeAt q 0 zs) := zh (by rw [hzs]; exact BQ2.out.range)
 have HTH : Hid ((V2.setCell ⟨q, 8, none⟩ (.slice A5 lb.length c5)).there w.heap.size 0 zs.toArray.size) := zh (HTW.out.there (by rw [hzs]; rfl))
 clear sl5 f5 hb5 hzs
 go_upto_region 6 with fail
 clear u8 z8
 go_wp2_with (first
  | (with_reducible refine zM rfl 106 (.tmp 9) rfl q 0 rfl zs _ HRQ.out Tryz.underlying106 rfl HZI.out ?_)
  | (refine zd rfl 106 (.tmp 4) (.tmp 54) rfl w.heap.size 0 zs.toArray rfl rfl HTH.out HZJ.out HZO.out ?_))
 have hq := HQW.out
 have FA : Frm (fun k => k = q) V2 (V2.setCell ⟨q, 8, none⟩ (.slice A5 lb.length c5)) := (za (fun k => k = q) V2).setCell (p := ⟨q, 8, none⟩) (fun _ => rfl) _
 have FB := jE w.heap.size zs 0 (V2.setCell ⟨q, 8, none⟩ (.slice A5 lb.length c5))
 have hbq := BQ.out.frm HF5.out (fun f => f)
 have s1 : Sl ((V2.setCell ⟨q, 8, none⟩ (.slice A5 lb.length c5)).setCells w.heap.size 0 zs) w.heap.size 3 1 (.slice A4 lf.length c4) lf.length (ivs lf) := by
  have h1 := (HSQ.out.fresh HF5.out)
  have h2 := h1.frm FA (fun k hk e => by subst e; exact h1.apart hbq (by decide) hk)
  exact h2.frm FB (fun k hk e => by subst e; exact h2.apart HTW.out (by decide) hk)
 have s2 : Sl ((V2.setCell ⟨q, 8, none⟩ (.slice A5 lb.length c5)).setCells w.heap.size 0 zs) w.heap.size 9 1 (.slice A5 lb.length c5) lb.length (svs lb) := by
  have h1 := HSL5.out.less HFV.out.size
  have h2 := h1.frm FA (fun k hk e => by subst e; exact h1.apart hbq (by decide) hk)
  exact h2.frm FB (fun k hk e => by subst e; exact h2.apart HTW.out (by decide) hk)
 have FC : Fresh w ((V2.setCell ⟨q, 8, none⟩ (.slice A5 lb.length c5)).setCells w.heap.size 0 zs) := ((HFV.out.trans HF5.out).trans' FA (fun k hk e => by omega)).trans' FB (fun k hk e => by omega)
 have hbz := jG HTW.out (vs := zs) (by rw [HZS.out]; rfl)
 exact zi (v := .agg zs.toArray) (results_cell_row Tryz.results69 _ _ w.heap.size _ zs.toArray _ _ rfl hbz Tryz.underlying106 rfl HZJ.out) rfl ⟨_, rfl, ⟨A4, c4, A5, c5, by rw [HZS.out], s1, s2⟩, FC⟩
def ccel (c : Cm) (GA : Option Addr) (gc : Nat) (PA : Option Addr) (pc : Nat) : List Value :=
 [.int .i64 c.kind, .string (str c.pnr), .int .i64 c.fl, .int .i64 c.cl, .int .i64 c.mn, .int .i64 c.tm, .float .f64 c.sc, .string (str c.lb), .int .i64 c.rows, .slice GA c.gs.length gc, .slice PA c.ps.length pc]
structure CmL (w : World) (c : Cm) (GA : Option Addr) (gc : Nat) (PA : Option Addr) (pc : Nat) : Prop where
 g : Rd w w.heap.size GA (ivs c.gs)
 p : Rd w w.heap.size PA (c.ps.map fv)
 pl : c.ps.length ≤ pc
 pm : pc ≤ maxLen
theorem CmL.fresh {w w' : World} {c : Cm} {GA : Option Addr} {gc : Nat} {PA : Option Addr} {pc : Nat} (h : CmL w c GA gc PA pc) (F : Fresh w w') : CmL w' c GA gc PA pc :=
 ⟨(h.g.fresh (zf _) F).more F.size, (h.p.fresh (zf _) F).more F.size, h.pl, h.pm⟩
theorem str_size (l : List UInt8) : (str l).size = l.length := rfl
theorem cmdRight_any (w : World) (c : Cm) (hc : CmB c) (GA : Option Addr) (gc : Nat) (PA : Option Addr) (pc : Nat) (hL : CmL w c GA gc PA pc) :
 Calls Tryz.prog 67 #[.agg (ccel c GA gc PA pc).toArray] w fun e w' => e = .returned (.bool (decide (1 ≤ c.kind))) ∧ Fresh w w' := by
 obtain ⟨cz, hcz⟩ : ∃ x, x = ccel c GA gc PA pc := ⟨_, rfl⟩
 rw [← hcz]
 obtain ⟨W, hW⟩ : ∃ W, w.alloc (.cells cz.toArray 95) = W := ⟨_, rfl⟩
 have HFW : Hid (Fresh w W) := zh (by rw [← hW]; exact jC _ _)
 have hb : Blk W w.heap.size 95 cz.toArray := by rw [← hW]; exact Blk.new _ _ _
 obtain ⟨kind, pnr, fl, cl, mn, tm, sc, lb, rows, gs, ps⟩ := c
 unfold ccel at hcz
 dsimp only at hcz
 have HFI : Hid (∀ w', Fresh W w' → w'.cell? ⟨w.heap.size, 0, none⟩ = some (.int .i64 kind) ∧ w'.cell? ⟨w.heap.size, 1, none⟩ = some (.string (str pnr)) ∧ w'.cell? ⟨w.heap.size, 2, none⟩ = some (.int .i64 fl) ∧ w'.cell? ⟨w.heap.size, 3, none⟩ = some (.int .i64 cl) ∧ w'.cell? ⟨w.heap.size, 4, none⟩ = some (.int .i64 mn) ∧ w'.cell? ⟨w.heap.size, 5, none⟩ = some (.int .i64 tm) ∧ w'.cell? ⟨w.heap.size, 7, none⟩ = some (.string (str lb)) ∧ w'.cell? ⟨w.heap.size, 8, none⟩ = some (.int .i64 rows) ∧ w'.cell? ⟨w.heap.size, 9, none⟩ = some (.slice GA gs.length gc) ∧ w'.cell? ⟨w.heap.size, 10, none⟩ = some (.slice PA ps.length pc)) := zh fun w' F => by
  have h := hb.frm F (fun f => f)
  rw [hcz] at h
  exact ⟨h.cell 0, h.cell 1, h.cell 2, h.cell 3, h.cell 4, h.cell 5, h.cell 7, h.cell 8, h.cell 9, h.cell 10⟩
 obtain ⟨y0, y1, y2, y3, y4, y5, y7, y8, y9, y10⟩ := HFI.out W (za _ _)
 have HG : Hid (∀ w', Fresh w w' → Rd w' w'.heap.size GA (ivs gs)) := zh fun w' F => (hL.fresh F).g
 obtain ⟨⟨b1, b2⟩, b3, ⟨b4, b5⟩, ⟨b6, b7⟩, ⟨b8, b9⟩, ⟨b10, b11⟩, b12, ⟨b13, b14⟩, hsm, hps, _⟩ := hc
 dsimp only at b1 b2 b3 b4 b5 b6 b7 b8 b9 b10 b11 b12 b13 b14 hps
 have hgl : gs.length ≤ 16 := hsm.1
 have HGS : Hid (∀ g ∈ gs, 0 ≤ g ∧ g ≤ 9999) := zh hsm.2
 have e1 : decide (9 < kind) = false := zb (by omega)
 have e2 : decide (tm < 0) = false := zb (by omega)
 have e3 : decide (1099511627776 < tm) = false := zb (by omega)
 have e4 : decide ((16 : Int) < (((str pnr).size : Nat) : Int)) = false := zb (by rw [str_size]; omega)
 have e5 : decide ((16 : Int) < (((str lb).size : Nat) : Int)) = false := zb (by rw [str_size]; omega)
 have e6 : decide ((16 : Int) < (gs.length : Int)) = false := zb (by omega)
 have e7 : decide ((16 : Int) < (ps.length : Int)) = false := zb (by omega)
 have e4' : decide (16 < (str pnr).size) = false := zb (by rw [str_size]; omega)
 have e5' : decide (16 < (str lb).size) = false := zb (by rw [str_size]; omega)
 have e6' : decide (16 < gs.length) = false := zb (by omega)
 have e7' : decide (16 < ps.length) = false := zb (by omega)
 have HB4 : Hid (∀ x ∈ [fl, cl, mn, rows], 0 ≤ x ∧ x ≤ 9999) := zh (by intro x hx; simp at hx; rcases hx with rfl | rfl | rfl | rfl <;> omega)
 have R4 : Hid (Rd (W.alloc (.cells (ivs [fl, cl, mn, rows]).toArray 3)) (W.heap.size + 1) (some ⟨W.heap.size, 0, none⟩) (ivs [fl, cl, mn, rows])) := zh (jL W _ _)
 have HF4 := zh (jC W (.cells (ivs [fl, cl, mn, rows]).toArray 3))
 clear hcz hb hL hsm b3 b4 b5 b6 b7 b8 b9 b10 b11 b12 b13 b14 hps
 go_in
 go_wp2_with fail
 try rw [hW]
 clear y0 y1 y2 y3 y4 y5 y7 y8 y9 y10 hW
 obtain ⟨V, hV⟩ : ∃ V, W.alloc (.cells #[.int .i64 fl, .int .i64 cl, .int .i64 mn, .int .i64 rows] 3) = V := ⟨_, rfl⟩
 have R5 : Hid (Rd V (W.heap.size + 1) (some ⟨W.heap.size, 0, none⟩) (ivs [fl, cl, mn, rows])) := zh (by rw [← hV]; exact R4.out)
 have HFV : Hid (Fresh W V) := zh (by rw [← hV]; exact HF4.out)
 rw [hV]
 clear hV R4 HF4
 go_loopw [4] (fun v4 wr => ∃ i : Nat, i ≤ 4 ∧ v4 = .int .i64 (i : Int) ∧ wr = V) (fun v4 _ => 4 - (intOf v4).toNat)
 case atStart => exact ⟨0, by omega, rfl, rfl⟩
 case round =>
  obtain ⟨i, hi, rfl, rfl⟩ := hrel
  have hi0 : (0 : Int) ≤ (i : Int) := by omega
  by_cases hlt : i < 4
  ·have hlti : (i : Int) < 4 := by omega
   obtain ⟨b, o, hA, _, hx⟩ := R5.out.at_ (k := i) (by simpa using hlt)
   injection hA with hA
   injection hA with h1 h2
   subst h1 h2
   rw [List.getElem_map, Nat.zero_add] at hx
   obtain ⟨g1, g2⟩ := HB4.out _ (ze (show i < [fl, cl, mn, rows].length from hlt))
   generalize [fl, cl, mn, rows][i]'_ = x at hx g1 g2
   have d1 : decide (x < 0) = false := zb (by omega)
   have d2 : decide (9999 < x) = false := zb (by omega)
   go_wp2_with fail
   go_roundw
   case rel => exact ⟨i + 1, by omega, by go_num, by first | rfl | trivial⟩
   case measure => simp [intOf]; omega
  ·have hlti : ¬ (i : Int) < 4 := by omega
   obtain ⟨y0, y1, y2, y3, y4, y5, y7, y8, y9, y10⟩ := HFI.out wr HFV.out
   by_cases c0 : kind < 1
   ·have d0 : decide (kind < 1) = true := zc c0
    have HV : Hid (decide (1 ≤ kind) = false) := zh (zb (by omega))
    go_wp2_with fail
    go_ret
    exact ⟨by first | exact ret_b HV.out.symm | rfl, HFW.out.trans HFV.out⟩
   ·have d0 : decide (kind < 1) = false := zb c0
    have HV : Hid (decide (1 ≤ kind) = true) := zh (zc (by omega))
    go_wp2_with fail
    go_loopw [5] (fun v5 w5 => ∃ j : Nat, j ≤ gs.length ∧ v5 = .int .i64 (j : Int) ∧ w5 = wr) (fun v5 _ => gs.length - (intOf v5).toNat)
    case atStart => exact ⟨0, by omega, rfl, rfl⟩
    case round =>
     obtain ⟨j, hj, rfl, rfl⟩ := hrel
     have hj0 : (0 : Int) ≤ (j : Int) := by omega
     by_cases hltj : j < gs.length
     ·have hltji : (j : Int) < (gs.length : Int) := by omega
      obtain ⟨b, o, rfl, _, hx⟩ := (HG.out _ (HFW.out.trans HFV.out)).at_ (k := j) (by simpa using hltj)
      rw [List.getElem_map] at hx
      obtain ⟨g1, g2⟩ := HGS.out _ (ze hltj)
      generalize gs[j] = x at hx g1 g2
      have d1 : decide (x < 0) = false := zb (by omega)
      have d2 : decide (9999 < x) = false := zb (by omega)
      go_wp2_with fail
      go_roundw
      case rel => exact ⟨j + 1, by omega, by go_num, by first | rfl | trivial⟩
      case measure => simp [intOf]; omega
     ·have hltji : ¬ (j : Int) < (gs.length : Int) := by omega
      go_wp2_with fail
      go_ret
      exact ⟨by first | exact ret_b HV.out.symm | rfl, HFW.out.trans HFV.out⟩
def RepZ (w : World) (B : Nat) (zs : List Value) (r : Rep) : Prop := ∃ A c A' c', zs = [.int .i64 r.code, .string (str r.pnr), .int .i64 r.st, .int .i64 r.fl, .int .i64 r.cl, .int .i64 r.mn, .int .i64 r.tm, .slice A r.left.length c, .slice A' r.labels.length c'] ∧
 Sl w B 3 1 (.slice A r.left.length c) r.left.length (ivs r.left) ∧ Sl w B 9 1 (.slice A' r.labels.length c') r.labels.length (svs r.labels)
theorem RepV.z {w : World} {B : Nat} {v : Value} {r : Rep} (h : RepV w B v r) : ∃ zs, v = .agg zs.toArray ∧ RepZ w B zs r := by
 obtain ⟨A, c, A', c', rfl, h1, h2⟩ := h
 exact ⟨_, rfl, A, c, A', c', rfl, h1, h2⟩
theorem RepZ.v {w : World} {B : Nat} {zs : List Value} {r : Rep} (h : RepZ w B zs r) : RepV w B (.agg zs.toArray) r := by
 obtain ⟨A, c, A', c', rfl, h1, h2⟩ := h
 exact ⟨A, c, A', c', rfl, h1, h2⟩
theorem RepZ.info {w : World} {B : Nat} {zs : List Value} {r : Rep} (h : RepZ w B zs r) : (Tryz.prog.info? 106).map (·.size) = some zs.toArray.size := by
 obtain ⟨A, c, A', c', rfl, h1, h2⟩ := h
 kernel_rfl
theorem RepZ.one {w : World} {B : Nat} {zs : List Value} {r : Rep} (h : RepZ w B zs r) : zs.toArray.all (·.oneCell') = true := by
 obtain ⟨A, c, A', c', rfl, h1, h2⟩ := h
 kernel_rfl
theorem RepZ.len {w : World} {B : Nat} {zs : List Value} {r : Rep} (h : RepZ w B zs r) : zs.length = 9 := by
 obtain ⟨A, c, A', c', rfl, h1, h2⟩ := h
 rfl
theorem RepZ.frm {w w' : World} {B : Nat} {zs : List Value} {r : Rep} {S : Nat → Prop} (h : RepZ w B zs r) (F : Frm S w w') (h1 : ∀ k cs, Blk w k 3 cs → ¬ S k) (h2 : ∀ k cs, Blk w k 9 cs → ¬ S k) : RepZ w' B zs r := by
 obtain ⟨A, c, A', c', rfl, s1, s2⟩ := h
 exact ⟨A, c, A', c', rfl, s1.frm F (fun k hk => by obtain ⟨cs, hb, _⟩ := s1.has hk; exact h1 k cs hb), s2.frm F (fun k hk => by obtain ⟨cs, hb, _⟩ := s2.has hk; exact h2 k cs hb)⟩
theorem RepZ.fresh {w w' : World} {B : Nat} {zs : List Value} {r : Rep} (h : RepZ w B zs r) (F : Fresh w w') : RepZ w' B zs r := h.frm F (fun _ _ _ f => f) (fun _ _ _ f => f)
theorem RepZ.less {w : World} {B B' : Nat} {zs : List Value} {r : Rep} (h : RepZ w B zs r) (hB : B' ≤ B) : RepZ w B' zs r := by
 obtain ⟨A, c, A', c', e, s1, s2⟩ := h
 exact ⟨A, c, A', c', e, s1.less hB, s2.less hB⟩
def rz : List Value := [.int .i64 0, .string ⟨#[]⟩, .int .i64 0, .int .i64 0, .int .i64 0, .int .i64 0, .int .i64 0, .slice none 0 0, .slice none 0 0]
theorem jX (w : World) (B : Nat) (c : Int) : RepZ w B [.int .i64 c, .string ⟨#[]⟩, .int .i64 0, .int .i64 0, .int .i64 0, .int .i64 0, .int .i64 0, .slice none 0 0, .slice none 0 0] (repC c) :=
 ⟨none, 0, none, 0, rfl, Sl.nil _ _ _ _, Sl.nil _ _ _ _⟩
theorem RepZ.lay {w : World} {B g : Nat} {zs : List Value} {r : Rep} {cs : Array Value} (h : RepZ w B zs r) (hb : Blk w g 106 cs) (hs : cs.size = 9) :
 Blk (w.setCells g 0 zs) g 106 zs.toArray ∧ RepZ (w.setCells g 0 zs) B zs r ∧ Frm (fun k => k = g) w (w.setCells g 0 zs) := by
 have F : Frm (fun k => k = g) w (w.setCells g 0 zs) := by
  have := jE g zs 0 w
  have e : (fun k => g = k) = (fun k => k = g) := by funext k; exact propext eq_comm
  rwa [e] at this
 exact ⟨jG hb (by rw [h.len, hs]), h.frm F (fun k c hk e => by subst e; exact hk.apart hb (by decide) rfl) (fun k c hk e => by subst e; exact hk.apart hb (by decide) rfl), F⟩
theorem jH {fn : Func} {p : Tmp} (h : fn.results = #[.cell p 106]) {tmps : Array Value} {W : World} {B g : Nat} {zs : List Value} {r : Rep} (hp : tmps.getD p undef = .pointer (some ⟨g, 0, none⟩)) (hb : Blk W g 106 zs.toArray) (hz : RepZ W B zs r) :
 (results fn tmps).run Tryz.prog W = .ok (.agg zs.toArray) W :=
 results_cell_row h tmps W g _ zs.toArray _ _ hp hb Tryz.underlying106 rfl hz.info
def NamedPost (w : World) (r : Int × Int) (e : Ending) (w' : World) : Prop := e = .returned (.tuple #[.int .i64 r.1, .int .i64 r.2]) ∧ Fresh w w'
theorem named18_any (w : World) (B b : Nat) (M : BkM) (pnr : List UInt8) (h : BookAt w B b M) (hl : M.l.length ≤ 1000) (hp : pnr.length ≤ 1000000) :
 Calls Tryz.prog 68 #[.pointer (some ⟨b, 0, none⟩), .string (str pnr)] w fun e w' => NamedPost w (jT M.abs pnr) e w' := by
 have HRE := zh (read_any w pnr hp)
 have HBK : Hid (∀ w' id, Fresh w w' → Calls Tryz.prog 82 #[.pointer (some ⟨b, 0, none⟩), .int .i64 id] w' fun e w'' => e = .returned (.int .i64 (jO id M.abs)) ∧ w'' = w') := zh fun w' id F => booking18_any w' B b M id (h.fresh F) hl
 have HN : Hid (jT M.abs pnr = if (readP pnr).2 ≠ 0 then (0, (readP pnr).2) else if jO (readP pnr).1 M.abs < 0 then (0, 2) else (jO (readP pnr).1 M.abs, 0)) := zh rfl
 generalize readP pnr = rp at HRE HN
 obtain ⟨id, er⟩ := rp
 dsimp only at HN
 have HB1 := zh (fun w' F => HBK.out w' id F)
 generalize jO id M.abs = p at HB1 HN
 clear h HBK
 go_in
 go_wp2_with fail
 refine HRE.out.mono ?_
 rintro e w1 ⟨rfl, f1⟩
 have HF1 := zh f1
 have HB2 := zh (HB1.out w1 f1)
 clear f1 HB1
 by_cases c0 : er = 0
 ·subst c0
  rw [zk (by simp)] at HN
  go_wp2_with fail
  refine HB2.out.mono ?_
  rintro e w2 ⟨rfl, hw2⟩
  rw [hw2]
  clear hw2 w2
  by_cases c1 : p < 0
  ·rw [zl c1] at HN
   have d1 : decide (p < 0) = true := zc c1
   go_wp2_with fail
   exact zi (v := .tuple #[.int .i64 0, .int .i64 2]) (by simp [results, Tryz.results68, go_sem]) rfl ⟨by rw [HN.out], HF1.out⟩
  ·rw [zk c1] at HN
   have d1 : decide (p < 0) = false := zb c1
   go_wp2_with fail
   exact zi (v := .tuple #[.int .i64 p, .int .i64 0]) (by simp [results, Tryz.results68, go_sem]) rfl ⟨by rw [HN.out], HF1.out⟩
 ·rw [zl c0] at HN
  have d0 : (er != 0) = true := by simpa using c0
  go_wp2_with fail
  exact zi (v := .tuple #[.int .i64 0, .int .i64 er]) (by simp [results, Tryz.results68, go_sem]) rfl ⟨by rw [HN.out], HF1.out⟩
structure Pre (w W : World) (cz : List Value) : Prop where
 frm : Fresh w W
 cmd : Blk W w.heap.size 95 cz.toArray
 rep : Blk W (w.heap.size + 1) 106 rz.toArray
theorem pre_of (w : World) (cz : List Value) : Pre w ((w.alloc (.cells cz.toArray 95)).alloc (.cells rz.toArray 106)) cz := by
 refine ⟨(jC _ _).trans (jC _ _), (Blk.new w _ _).alloc _, ?_⟩
 have := Blk.new (w.alloc (.cells cz.toArray 95)) 106 rz.toArray
 rwa [zJ] at this
theorem Pre.fresh {w W W' : World} {cz : List Value} (h : Pre w W cz) (F : Fresh W W') : Pre w W' cz := ⟨h.frm.trans F, h.cmd.frm F (fun f => f), h.rep.frm F (fun f => f)⟩
theorem told_end {w X : World} {B' : Nat} {cz zs : List Value} {r : Rep} (h : Pre w X cz) (hz : RepZ X B' zs r) (hB : w.heap.size ≤ B') :
 Blk (X.setCells (w.heap.size + 1) 0 zs) (w.heap.size + 1) 106 zs.toArray ∧ RepZ (X.setCells (w.heap.size + 1) 0 zs) w.heap.size zs r ∧ Fresh w (X.setCells (w.heap.size + 1) 0 zs) := by
 obtain ⟨h1, h2, h3⟩ := hz.lay h.rep rfl
 exact ⟨h1, h2.less hB, h.frm.trans' h3 (fun k hk e => by omega)⟩
theorem rz_there {w X : World} {B' : Nat} {cz zs : List Value} {r : Rep} (h : Pre w X cz) (hz : RepZ X B' zs r) : X.there (w.heap.size + 1) 0 zs.toArray.size := h.rep.there (by show zs.toArray.size = 9; simp [hz.len])
theorem show18_any (w : World) (B b : Nat) (M : BkM) (n : Nat) (c : Cm) (GA : Option Addr) (gc : Nat) (PA : Option Addr) (pc : Nat) (h : BookAt w B b M) (hk : BookOk n M.abs) (hn : n ≤ 100) (hc : CmB c) (hc1 : 1 ≤ c.kind) (hL : CmL w c GA gc PA pc) :
 Calls Tryz.prog 46 #[.pointer (some ⟨b, 0, none⟩), .agg (ccel c GA gc PA pc).toArray] w fun e w' => ToldPost w (showA M.abs c) e w' := by
 obtain ⟨cz, hcz⟩ : ∃ x, x = ccel c GA gc PA pc := ⟨_, rfl⟩
 have HRI : Hid (∀ w', Fresh w w' → Calls Tryz.prog 67 #[.agg cz.toArray] w' fun e w'' => e = .returned (.bool true) ∧ Fresh w' w'') := zh fun w' F => by
  rw [hcz]
  have := cmdRight_any w' c hc GA gc PA pc (hL.fresh F)
  rw [zc hc1] at this
  exact this
 have HCI : Hid ((Tryz.prog.info? 95).map (·.size) = some cz.length) := zh (by rw [hcz]; kernel_rfl)
 have hml : M.abs.l = M.l := rfl
 have hlen : M.l.length ≤ 100 := by have := hk.len; rw [hml] at this; omega
 have hfsl : M.abs.fs.length = M.fs.length := by show (M.fs.map PlM.abs).length = _; rw [zB]
 have hfew : M.fs.length ≤ 8 := by have := hk.few; omega
 have HNA : Hid (∀ w', Fresh w w' → Calls Tryz.prog 68 #[.pointer (some ⟨b, 0, none⟩), .string (str c.pnr)] w' fun e w'' => NamedPost w' (jT M.abs c.pnr) e w'') := zh fun w' F => named18_any w' B b M c.pnr (h.fresh F) (by omega) (by have := hc.pnr; omega)
 have HTO : Hid (∀ w' (i : Nat), Fresh w w' → i < M.l.length → Calls Tryz.prog 69 #[.pointer (some ⟨b, 0, none⟩), .int .i64 (i : Int)] w' fun e w'' => ToldPost w' (toldA M.abs i) e w'') := zh fun w' i F hi => told18_any w' B b M n i (h.fresh F) hk hn hi
 have HFL : Hid (∀ w', Fresh w w' → Calls Tryz.prog 70 #[.pointer (some ⟨b, 0, none⟩), .int .i64 c.fl] w' fun e w'' => e = .returned (.int .i64 (qL c.fl M.abs)) ∧ w'' = w') := zh fun w' F => qD w' B b M c.fl (h.fresh F) hfew
 have HSH : Hid (showA M.abs c = if c.kind ≠ 9 then repC 1
  else if c.pnr ≠ [] then (if (jT M.abs c.pnr).2 ≠ 0 then repC (jT M.abs c.pnr).2 else toldA M.abs (jT M.abs c.pnr).1.toNat)
  else if qL c.fl M.abs < 0 then repC 2
  else { repC 0 with fl := c.fl, left := leftA (plAt M.abs (qL c.fl M.abs).toNat).f, mn := ((plAt M.abs (qL c.fl M.abs).toNat).q.length : Int) }) := zh rfl
 have hna : (jT M.abs c.pnr).2 = 0 → ∃ i : Nat, (jT M.abs c.pnr).1 = (i : Int) ∧ i < M.l.length := by
  intro h0
  unfold jT at h0 ⊢
  by_cases h1 : (readP c.pnr).2 ≠ 0
  ·rw [zl h1] at h0
   exact absurd h0 h1
  ·rw [zk h1] at h0 ⊢
   by_cases h2 : jO (readP c.pnr).1 M.abs < 0
   ·rw [zl h2] at h0
    exact absurd h0 (by decide)
   ·rw [zk h2]
    unfold jO at h2 ⊢
    rcases jY (fun p : Bk => p.id) (readP c.pnr).1 M.abs.l 0 with ⟨h3, _⟩ | ⟨k, h3, h4, _⟩
    ·exact absurd h2 (by rw [h3]; decide)
    ·exact ⟨k, by dsimp only; rw [h4]; simp, h3⟩
 have hfa : 0 ≤ qL c.fl M.abs → ∃ k : Nat, qL c.fl M.abs = (k : Int) ∧ k < M.fs.length := by
  intro h0
  unfold qL at h0 ⊢
  rcases jY (fun p : Pl => p.f.num) c.fl M.abs.fs 0 with ⟨h3, _⟩ | ⟨k, h3, h4, _⟩
  ·exact absurd h0 (by rw [h3]; decide)
  ·exact ⟨k, by rw [h4]; simp, by omega⟩
 have HY2 : Hid (∀ w', Fresh w w' → w'.cell? ⟨b, 2, none⟩ = some (.slice M.FA M.fs.length M.fc)) := zh fun w' F => (h.fresh F).blk.cell 2
 have HPL : Hid (∀ k (hkm : k < M.fs.length), ∃ g o Aq cq, M.FA = some ⟨g, o, none⟩ ∧ plAt M.abs k = M.fs[k].abs ∧ (g < w.heap.size ∧ M.fs[k].q < w.heap.size) ∧ ∀ w', Fresh w w' → (w'.cell? ⟨g, o + k * 2, none⟩ = some (.pointer (some ⟨M.fs[k].f, 0, none⟩)) ∧ w'.cell? ⟨g, o + k * 2 + 1, none⟩ = some (.pointer (some ⟨M.fs[k].q, 0, none⟩)) ∧ w'.cell? ⟨M.fs[k].q, 0, none⟩ = some (.slice Aq M.fs[k].ws.length cq)) ∧
  Calls Tryz.prog 71 #[.pointer (some ⟨M.fs[k].f, 0, none⟩)] w' fun e w'' => OwnL w' (leftA M.fs[k].m.abs) e w'') := zh fun k hkm => by
  obtain ⟨g, o, hFA, hgl, hp0, hp1⟩ := h.place hkm
  have hq := h.qu _ (ze hkm)
  obtain ⟨Aq, cq, hv, _⟩ := hq.sl.shape
  obtain ⟨hfo, hgo, hhs, hws⟩ := hk.at_ hkm
  refine ⟨g, o, Aq, cq, hFA, abs_at hkm, ⟨hgl, hq.blk.lt⟩, fun w' F => ⟨⟨(F.cell (p := ⟨g, o + k * 2, none⟩) hgl (fun f => f)).trans hp0, (F.cell (p := ⟨g, o + k * 2 + 1, none⟩) hgl (fun f => f)).trans hp1, ?_⟩, left15_any w' B _ _ ((h.fresh F).fl _ (ze hkm)).1 (by omega) hfo.few.2 hfo.mn hfo.cl⟩⟩
  rw [← hv]
  exact (hq.fresh F).blk.cell 0
 have hblt := h.blk.lt
 clear hk hml
 obtain ⟨W, hW⟩ : ∃ W, (w.alloc (.cells cz.toArray 95)).alloc (.cells rz.toArray 106) = W := ⟨_, rfl⟩
 have HPR : Hid (Pre w W cz) := zh (by rw [← hW]; exact pre_of w cz)
 have HCF : Hid (∀ w', Fresh W w' → w'.cell? ⟨w.heap.size, 0, none⟩ = some (.int .i64 c.kind) ∧ w'.cell? ⟨w.heap.size, 1, none⟩ = some (.string (str c.pnr)) ∧ w'.cell? ⟨w.heap.size, 2, none⟩ = some (.int .i64 c.fl)) := zh fun w' F => by
  have := (HPR.out.fresh F).cmd
  rw [hcz] at this
  exact ⟨this.cell 0, this.cell 1, this.cell 2⟩
 have HCR : Hid (W.rangeAt w.heap.size 0 cz) := zh HPR.out.cmd.range
 rw [← hcz]
 clear hcz hL h
 obtain ⟨kind, pnr, fl, cl, mn, tm, sc, lb, rows, gs, ps⟩ := c
 dsimp only at HNA HFL HSH hna hfa HCF hc1
 clear hc
 generalize qL fl M.abs = fa at HFL HSH hfa
 generalize jT M.abs pnr = na at HNA HSH hna
 obtain ⟨ni, ne⟩ := na
 dsimp only at HSH hna
 go_in
 go_upto_region 1 with fail
 first | rw [show (w.alloc (.cells cz.toArray 95)).alloc (.cells #[.int .i64 0, .string ⟨#[]⟩, .int .i64 0, .int .i64 0, .int .i64 0, .int .i64 0, .int .i64 0, .slice none 0 0, .slice none 0 0] 106) = W from hW] | trace_state
 clear hW
 have HR1 := zh (HRI.out W HPR.out.frm)
 go_wp2_with (with_reducible refine zM rfl 95 (.tmp 3) rfl w.heap.size 0 rfl cz _ HCR.out Tryz.underlying95 rfl HCI.out ?_)
 refine HR1.out.mono ?_
 rintro e X ⟨rfl, fX⟩
 have HPX := zh (HPR.out.fresh fX)
 have HFX := zh fX
 obtain ⟨x0, x1, x2⟩ := HCF.out X fX
 clear fX HR1
 by_cases c0 : kind = 9
 ·subst c0
  rw [zk (by simp)] at HSH
  by_cases c1 : pnr = []
  ·subst c1
   rw [zk (by simp)] at HSH
   have q1 : (str []).toList.isEmpty = true := by rw [str_toList]; rfl
   have HFX1 := zh (HFL.out X HPX.out.frm)
   go_wp2_with fail
   refine HFX1.out.mono ?_
   rintro e w2 ⟨rfl, hw2⟩
   rw [hw2]
   clear hw2 w2
   by_cases c2 : fa < 0
   ·rw [zl c2] at HSH
    have d2 : decide (fa < 0) = true := zc c2
    obtain ⟨zs, hzs⟩ : ∃ zs : List Value, zs = [.int .i64 2, .string ⟨#[]⟩, .int .i64 0, .int .i64 0, .int .i64 0, .int .i64 0, .int .i64 0, .slice none 0 0, .slice none 0 0] := ⟨_, rfl⟩
    have HZ : Hid (RepZ X X.heap.size zs (repC 2)) := zh (by rw [hzs]; exact jX _ _ _)
    have HZS := zh hzs
    have HTH := zh (rz_there HPX.out HZ.out)
    have HZJ := zh HZ.out.info
    have HZO := zh HZ.out.one
    clear hzs
    go_wp2_with (refine zd rfl 106 (.tmp 4) (.tmp 42) rfl (w.heap.size + 1) 0 zs.toArray rfl (by rw [HZS.out]; rfl) HTH.out HZJ.out HZO.out ?_)
    obtain ⟨E1, E2, E3⟩ := told_end HPX.out HZ.out (HPX.out).frm.size
    exact zi (v := .agg zs.toArray) (jH (B := w.heap.size) Tryz.results46 rfl E1 E2) rfl (by rw [HSH.out]; exact ⟨_, rfl, E2.v, E3⟩)
   ·rw [zk c2] at HSH
    have d2 : decide (fa < 0) = false := zb c2
    obtain ⟨k, hke, hkm⟩ := hfa (by omega)
    subst hke
    rw [zx] at HSH
    obtain ⟨g, o, Aq, cq, hFA, hpa, ⟨hgl, hql⟩, hPL⟩ := HPL.out k hkm
    rw [hpa] at HSH
    have HQL := zh hPL
    rw [hFA] at HY2
    have HSH2 : Hid (showA M.abs ⟨9, [], fl, cl, mn, tm, sc, lb, rows, gs, ps⟩ = { repC 0 with fl := fl, left := leftA M.fs[k].m.abs, mn := (M.fs[k].ws.length : Int) }) := zh (by rw [HSH.out]; rfl)
    clear hPL hpa hFA HSH HPL hfa HTO HNA hna
    generalize leftA M.fs[k].m.abs = lf at HQL HSH2
    generalize M.fs[k].f = fk at HQL
    generalize M.fs[k].q = qk at HQL hql
    generalize M.fs[k].ws.length = wl at HQL HSH2
    generalize M.fs.length = fn at HY2 hkm hfsl hfew
    generalize M.fc = fc at HY2
    have k0 : (0 : Int) ≤ (k : Int) := by omega
    have k1 : (k : Int) < (fn : Int) := by omega
    have HSS : Hid (∀ w', Fresh X w' → w'.cell? ⟨w.heap.size, 2, none⟩ = some (.int .i64 fl) ∧ w'.cell? ⟨b, 2, none⟩ = some (.slice (some ⟨g, o, none⟩) fn fc) ∧ w'.cell? ⟨g, o + k * 2, none⟩ = some (.pointer (some ⟨fk, 0, none⟩)) ∧ w'.cell? ⟨g, o + k * 2 + 1, none⟩ = some (.pointer (some ⟨qk, 0, none⟩)) ∧ w'.cell? ⟨qk, 0, none⟩ = some (.slice Aq wl cq)) := zh fun w' F => ⟨(HCF.out w' (HFX.out.trans F)).2.2, HY2.out w' (HPX.out.frm.trans F), (HQL.out w' (HPX.out.frm.trans F)).1.1, (HQL.out w' (HPX.out.frm.trans F)).1.2.1, (HQL.out w' (HPX.out.frm.trans F)).1.2.2⟩
    have HS2 : Hid (∀ w' w'', Fresh X w' → Frm (fun k => k = w.heap.size + 1) w' w'' → w''.cell? ⟨w.heap.size, 2, none⟩ = some (.int .i64 fl) ∧ w''.cell? ⟨b, 2, none⟩ = some (.slice (some ⟨g, o, none⟩) fn fc) ∧ w''.cell? ⟨g, o + k * 2, none⟩ = some (.pointer (some ⟨fk, 0, none⟩)) ∧ w''.cell? ⟨g, o + k * 2 + 1, none⟩ = some (.pointer (some ⟨qk, 0, none⟩)) ∧ w''.cell? ⟨qk, 0, none⟩ = some (.slice Aq wl cq)) := zh fun w' w'' F G => by obtain ⟨a1, a2, a3, a4, a5⟩ := HSS.out w' F; have hs := (HPX.out.frm.trans F).size; have h0 := (HPX.out.fresh F).cmd.lt; exact ⟨(G.cell (p := ⟨w.heap.size, 2, none⟩) h0 (by show ¬ w.heap.size = w.heap.size + 1; omega)).trans a1, (G.cell (p := ⟨b, 2, none⟩) (by show b < _; omega) (by show ¬ b = _; omega)).trans a2, (G.cell (p := ⟨g, o + k * 2, none⟩) (by show g < _; omega) (by show ¬ g = _; omega)).trans a3, (G.cell (p := ⟨g, o + k * 2 + 1, none⟩) (by show g < _; omega) (by show ¬ g = _; omega)).trans a4, (G.cell (p := ⟨qk, 0, none⟩) (by show qk < _; omega) (by show ¬ qk = _; omega)).trans a5⟩
    have HLE := zh (HQL.out X.drew (HPX.out.frm.drew)).2
    have HTF : Hid (∀ zs w5, Fresh X w5 → RepZ w5 X.heap.size zs ({ repC 0 with fl := fl, left := lf, mn := (wl : Int) }) → Frm (fun k => k = w.heap.size + 1) w5 (w5.setCells (w.heap.size + 1) 0 zs)) := zh fun zs w5 F hz => (hz.lay (HPX.out.fresh F).rep rfl).2.2
    go_wp2_with fail
    refine zj (S := (fun w' => w'.cell? ⟨w.heap.size, 2, none⟩ = some (.int .i64 fl) ∧ w'.cell? ⟨b, 2, none⟩ = some (.slice (some ⟨g, o, none⟩) fn fc) ∧ w'.cell? ⟨g, o + k * 2, none⟩ = some (.pointer (some ⟨fk, 0, none⟩)) ∧ w'.cell? ⟨g, o + k * 2 + 1, none⟩ = some (.pointer (some ⟨qk, 0, none⟩)) ∧ w'.cell? ⟨qk, 0, none⟩ = some (.slice Aq wl cq))) (by kernel_rfl) (HSS.out _ ((za _ _).drew)) (fun hHeld => ?_)
    iterate 10 ((first | refine ztn (v := ?_) (zo rfl) ?_ | refine ztz (v := ?_) (zo rfl) ?_); try simp only [Act.put, zT, zZ, zS])
    (refine zt 11 (v := ?_) (zo rfl) ?_; try simp only [Act.put, zT, zZ, zS])
    iterate 11 (refine ztn (v := ?_) (zo rfl) ?_; try simp only [Act.put, zT, zZ, zS])
    refine zr1 10 (zo rfl) (fun K hK => ?_)
    go_simp
    refine (HLE.out).mono ?_
    rintro e w5 ⟨v5, rfl, s5, f5⟩
    obtain ⟨A5, c5, rfl, _⟩ := s5.shape
    have HF5 : Hid (Fresh X w5) := zh ((za _ _).drew.trans f5)
    have HP5 := zh (HPX.out.fresh HF5.out)
    obtain ⟨zs, hzs⟩ : ∃ zs : List Value, zs = [.int .i64 0, .string ⟨#[]⟩, .int .i64 0, .int .i64 fl, .int .i64 0, .int .i64 (wl : Int), .int .i64 0, .slice A5 lf.length c5, .slice none 0 0] := ⟨_, rfl⟩
    have HZ : Hid (RepZ w5 X.heap.size zs ({ repC 0 with fl := fl, left := lf, mn := (wl : Int) })) := zh (by rw [hzs]; exact ⟨A5, c5, none, 0, rfl, s5, Sl.nil _ _ _ _⟩)
    have HZS := zh hzs
    have HTH := zh (rz_there HP5.out HZ.out)
    have HZJ := zh HZ.out.info
    have HZO := zh HZ.out.one
    clear s5 f5 hzs
    refine hK.out _ _ (HSS.out _ HF5.out) (fun hHeld => ?_)
    clear hK K
    try simp only [Act.put, zT, zZ, zS]
    (refine zt 23 (v := ?_) (zo rfl) ?_; try simp only [Act.put, zT, zZ, zS])
    refine zr1 24 (zo rfl) (fun K hK => ?_)
    rw [zl (by rfl)]
    refine wp_store_mid _ _ _ rfl (w.heap.size + 1) 0 zs.toArray rfl (by rw [HZS.out]; rfl) HTH.out HZJ.out HZO.out ?_
    refine hK.out _ _ (HS2.out w5 _ HF5.out (HTF.out zs w5 HF5.out HZ.out)) (fun hHeld => ?_)
    clear hK K
    try simp only [Act.put, zT, zZ, zS]
    refine wpAnyH_done (by kernel_rfl) ?_ _
    go_wp2_with fail
    obtain ⟨E1, E2, E3⟩ := told_end HP5.out HZ.out HPX.out.frm.size
    exact zi (v := .agg zs.toArray) (jH (B := w.heap.size) Tryz.results46 rfl E1 E2) rfl (by rw [HSH2.out]; exact ⟨_, rfl, E2.v, E3⟩)
  ·rw [zl c1] at HSH
   have q1 : (str pnr).toList.isEmpty = false := by rw [str_toList]; cases pnr with | nil => exact absurd rfl c1 | cons x r => rfl
   have HN1 := zh (HNA.out X HPX.out.frm)
   go_wp2_with fail
   refine HN1.out.mono ?_
   rintro e w2 ⟨rfl, f2⟩
   have HP2 := zh (HPX.out.fresh f2)
   have HF2 := zh f2
   clear f2 x0 x1 x2 HN1
   by_cases c2 : ne = 0
   ·subst c2
    rw [zk (by simp)] at HSH
    obtain ⟨i, hie, him⟩ := hna rfl
    subst hie
    rw [zx] at HSH
    have HT2 := zh (HTO.out w2 i HP2.out.frm him)
    go_wp2_with fail
    refine HT2.out.mono ?_
    rintro e w3 ⟨v3, rfl, hv3, f3⟩
    obtain ⟨zs, rfl, hz3⟩ := hv3.z
    have HP3 := zh (HP2.out.fresh f3)
    have HZ := zh (hz3.less (B' := w.heap.size) (HP2.out.frm.size))
    have HTH := zh (rz_there HP3.out HZ.out)
    have HZJ := zh HZ.out.info
    have HZO := zh HZ.out.one
    clear f3 hv3 hz3
    go_wp2_with (refine zd rfl 106 (.tmp 4) (.tmp 35) rfl (w.heap.size + 1) 0 zs.toArray rfl rfl HTH.out HZJ.out HZO.out ?_)
    obtain ⟨E1, E2, E3⟩ := told_end HP3.out HZ.out (zf _)
    exact zi (v := .agg zs.toArray) (jH (B := w.heap.size) Tryz.results46 rfl E1 E2) rfl (by rw [HSH.out]; exact ⟨_, rfl, E2.v, E3⟩)
   ·rw [zl c2] at HSH
    have d2 : (ne != 0) = true := by simpa using c2
    obtain ⟨zs, hzs⟩ : ∃ zs : List Value, zs = [.int .i64 ne, .string ⟨#[]⟩, .int .i64 0, .int .i64 0, .int .i64 0, .int .i64 0, .int .i64 0, .slice none 0 0, .slice none 0 0] := ⟨_, rfl⟩
    have HZ : Hid (RepZ w2 w2.heap.size zs (repC ne)) := zh (by rw [hzs]; exact jX _ _ _)
    have HZS := zh hzs
    have HTH := zh (rz_there HP2.out HZ.out)
    have HZJ := zh HZ.out.info
    have HZO := zh HZ.out.one
    clear hzs
    go_wp2_with (refine zd rfl 106 (.tmp 4) (.tmp 32) rfl (w.heap.size + 1) 0 zs.toArray rfl (by rw [HZS.out]; rfl) HTH.out HZJ.out HZO.out ?_)
    obtain ⟨E1, E2, E3⟩ := told_end HP2.out HZ.out (HP2.out).frm.size
    exact zi (v := .agg zs.toArray) (jH (B := w.heap.size) Tryz.results46 rfl E1 E2) rfl (by rw [HSH.out]; exact ⟨_, rfl, E2.v, E3⟩)
 ·have d0 : (kind != 9) = true := by simpa using c0
  rw [zl c0] at HSH
  obtain ⟨zs, hzs⟩ : ∃ zs : List Value, zs = [.int .i64 1, .string ⟨#[]⟩, .int .i64 0, .int .i64 0, .int .i64 0, .int .i64 0, .int .i64 0, .slice none 0 0, .slice none 0 0] := ⟨_, rfl⟩
  have HZ : Hid (RepZ X X.heap.size zs (repC 1)) := zh (by rw [hzs]; exact jX _ _ _)
  have HZS := zh hzs
  have HTH := zh (rz_there HPX.out HZ.out)
  have HZJ := zh HZ.out.info
  have HZO := zh HZ.out.one
  clear hzs
  go_wp2_with (refine zd rfl 106 (.tmp 4) (.tmp 18) rfl (w.heap.size + 1) 0 zs.toArray rfl (by rw [HZS.out]; rfl) HTH.out HZJ.out HZO.out ?_)
  obtain ⟨E1, E2, E3⟩ := told_end HPX.out HZ.out (HPX.out).frm.size
  exact zi (v := .agg zs.toArray) (jH (B := w.heap.size) Tryz.results46 rfl E1 E2) rfl (by rw [HSH.out]; exact ⟨_, rfl, E2.v, E3⟩)
end
end Go.Proofs.YtnmokpbomeamfaaGreat

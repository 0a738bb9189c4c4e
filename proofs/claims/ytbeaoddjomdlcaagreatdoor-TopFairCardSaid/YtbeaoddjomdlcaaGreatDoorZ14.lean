/- Proved here, for the statement TopFairCardSaid: laws that its walk leans on. It holds with no condition. (Put together and shortened by a program out of many texts: To7, To8, To9, To10, To11.) -/
import Derived.Test.YtbeaoddjomdlcaaGreatDoorZ13
import Derived.Deep.DeepMust
set_option linter.unusedVariables false
set_option linter.unusedSimpArgs false
set_option maxRecDepth 100000
set_option maxHeartbeats 64000000
namespace Go.Proofs.YtbeaoddjomdlcaaGreatDoor
section
open Go.RowKit
structure HoldM where
  p : Nat
  ow : Int
  cl : Int
  mn : Int
  v : Value
  l : List Int
def HoldM.ptr (x : HoldM) : Value := .pointer (some ⟨x.p, 0, none⟩)
def HoldM.cells (x : HoldM) : Array Value := #[.int .i64 x.ow, .int .i64 x.cl, .int .i64 x.mn, x.v]
structure HoldP (w : World) (B : Nat) (x : HoldM) : Prop where
  blk : Blk w x.p 139 x.cells
  ge : B ≤ x.p
  wo : wf64 x.ow
  wc : wf64 x.cl
  wm : wf64 x.mn
  mb : x.mn ≤ 10000
  lb : x.l.length ≤ 10000
  sb : seatB x.l
  sl : Sl w B 3 1 x.v x.l.length (ivs x.l)
structure FM where
  f : Nat
  hb : Nat
  ob : Nat
  num : Int
  rows : Int
  gv : Value
  lv : Value
  sv : Value
  gs : List Int
  ls : List Int
  ss : List Int
  h : Int → Option HoldM
  o : Int → Option Int
def FM.cells (M : FM) : Array Value := #[.int .i64 M.num, .int .i64 M.rows, M.gv, M.lv, M.sv, .map (some M.hb), .map (some M.ob)]
def FM.hv (M : FM) : Int → Option Value := fun k => (M.h k).map HoldM.ptr
def FM.ov (M : FM) : Int → Option Value := fun k => (M.o k).map (Value.int .i64)
def FM.own (M : FM) (k : Nat) : Prop := k = M.f ∨ k = M.hb ∨ k = M.ob ∨ M.gv.ownBlock = some k ∨ M.lv.ownBlock = some k ∨ M.sv.ownBlock = some k ∨ ∃ j x, M.h j = some x ∧ (x.p = k ∨ x.v.ownBlock = some k)
structure FlP (w : World) (B : Nat) (M : FM) : Prop where
  blk : Blk w M.f 133 M.cells
  bf : B ≤ M.f
  bh : B ≤ M.hb
  bo : B ≤ M.ob
  wn : wf64 M.num
  wr : wf64 M.rows
  g : Sl w B 3 1 M.gv M.gs.length (ivs M.gs)
  gs : small M.gs
  l : Sl w B 3 1 M.lv M.ls.length (ivs M.ls)
  ll : M.ls.length ≤ 8
  lw : ∀ z ∈ M.ls, wf64 z
  s : Sl w B 3 1 M.sv M.ss.length (ivs M.ss)
  sl : M.ss.length ≤ 8
  hm : MapV w M.hb M.hv
  om : MapV w M.ob M.ov
  hk : ∀ k x, M.h k = some x → (1 ≤ k ∧ k ≤ 28629151) ∧ HoldP w B x
  ok : ∀ k z, M.o k = some z → 0 ≤ k ∧ k < 600
  ho : M.hb ≠ M.ob
  ap : ∀ k x k' x', M.h k = some x → M.h k' = some x' → k ≠ k' → x.p ≠ x'.p ∧ ∀ g, x.v.ownBlock = some g → x'.v.ownBlock ≠ some g
  ag : ∀ k x, M.h k = some x → ∀ g, x.v.ownBlock = some g → M.gv.ownBlock ≠ some g ∧ M.lv.ownBlock ≠ some g ∧ M.sv.ownBlock ≠ some g
section
variable {w w' : World} {B : Nat} {M : FM}
theorem HoldP.frm {x : HoldM} {S : Nat → Prop} (h : HoldP w B x) (F : Frm S w w') (h1 : ¬ S x.p) (h2 : ∀ k, x.v.ownBlock = some k → ¬ S k) : HoldP w' B x :=
  ⟨h.blk.frm F h1, h.ge, h.wo, h.wc, h.wm, h.mb, h.lb, h.sb, h.sl.frm F h2⟩
theorem FlP.frm {S : Nat → Prop} (h : FlP w B M) (F : Frm S w w') (hS : ∀ k, M.own k → ¬ S k) : FlP w' B M :=
  ⟨h.blk.frm F (hS _ (.inl rfl)), h.bf, h.bh, h.bo, h.wn, h.wr,
    h.g.frm F (fun k hk => hS k (.inr (.inr (.inr (.inl hk))))), h.gs,
    h.l.frm F (fun k hk => hS k (.inr (.inr (.inr (.inr (.inl hk)))))), h.ll, h.lw,
    h.s.frm F (fun k hk => hS k (.inr (.inr (.inr (.inr (.inr (.inl hk))))))), h.sl,
    h.hm.frm F (hS _ (.inr (.inl rfl))), h.om.frm F (hS _ (.inr (.inr (.inl rfl)))),
    fun k x hx => ⟨(h.hk k x hx).1, (h.hk k x hx).2.frm F (hS _ (.inr (.inr (.inr (.inr (.inr (.inr ⟨k, x, hx, .inl rfl⟩))))))) (fun j hj => hS _ (.inr (.inr (.inr (.inr (.inr (.inr ⟨k, x, hx, .inr hj⟩)))))))⟩,
    h.ok, h.ho, h.ap, h.ag⟩
theorem FlP.fresh (h : FlP w B M) (F : Fresh w w') : FlP w' B M := h.frm F (fun _ _ f => f)
theorem FlP.own_lt (h : FlP w B M) {k : Nat} (hk : M.own k) : B ≤ k ∧ k < w.heap.size := by
  rcases hk with rfl | rfl | rfl | hk | hk | hk | ⟨j, x, hx, rfl | hk⟩
  · exact ⟨h.bf, h.blk.lt⟩
  · exact ⟨h.bh, h.hm.lt⟩
  · exact ⟨h.bo, h.om.lt⟩
  · exact h.g.lt k hk
  · exact h.l.lt k hk
  · exact h.s.lt k hk
  · exact ⟨(h.hk j x hx).2.ge, (h.hk j x hx).2.blk.lt⟩
  · exact (h.hk j x hx).2.sl.lt k hk
theorem FlP.own_kind (h : FlP w B M) {k : Nat} (hk : M.own k) : (k = M.hb ∨ k = M.ob) ∨ ∃ t cs, Blk w k t cs ∧ (t = 133 ∨ t = 3 ∨ t = 139) := by
  rcases hk with rfl | rfl | rfl | hk | hk | hk | ⟨j, x, hx, rfl | hk⟩
  · exact .inr ⟨_, _, h.blk, .inl rfl⟩
  · exact .inl (.inl rfl)
  · exact .inl (.inr rfl)
  · obtain ⟨_, cs, hc⟩ := own_type h.g hk; exact .inr ⟨_, _, hc, .inr (.inl rfl)⟩
  · obtain ⟨_, cs, hc⟩ := own_type h.l hk; exact .inr ⟨_, _, hc, .inr (.inl rfl)⟩
  · obtain ⟨_, cs, hc⟩ := own_type h.s hk; exact .inr ⟨_, _, hc, .inr (.inl rfl)⟩
  · exact .inr ⟨_, _, (h.hk j x hx).2.blk, .inr (.inr rfl)⟩
  · obtain ⟨_, cs, hc⟩ := own_type (h.hk j x hx).2.sl hk; exact .inr ⟨_, _, hc, .inr (.inl rfl)⟩
theorem FlP.hkb (h : FlP w B M) : KB M.hv := fun k hk => by
  unfold FM.hv at hk
  cases hx : M.h k with
  | none => rw [hx] at hk; cases hk
  | some x => have := (h.hk k x hx).1; omega
theorem FlP.okb (h : FlP w B M) : KB M.ov := fun k hk => by
  unfold FM.ov at hk
  cases hx : M.o k with
  | none => rw [hx] at hk; cases hk
  | some x => have := h.ok k x hx; omega
theorem FlP.cells (h : FlP w B M) : w.cell? ⟨M.f, 0, none⟩ = some (.int .i64 M.num) ∧ w.cell? ⟨M.f, 1, none⟩ = some (.int .i64 M.rows) ∧ w.cell? ⟨M.f, 2, none⟩ = some M.gv ∧ w.cell? ⟨M.f, 3, none⟩ = some M.lv ∧ w.cell? ⟨M.f, 4, none⟩ = some M.sv ∧ w.cell? ⟨M.f, 5, none⟩ = some (.map (some M.hb)) ∧ w.cell? ⟨M.f, 6, none⟩ = some (.map (some M.ob)) :=
  ⟨h.blk.cell 0, h.blk.cell 1, h.blk.cell 2, h.blk.cell 3, h.blk.cell 4, h.blk.cell 5, h.blk.cell 6⟩
end
def StepP (w : World) (B : Nat) (M : FM) (w' : World) : Prop :=
  ∃ M' : FM, FlP w' B M' ∧ M'.f = M.f ∧ M'.hb = M.hb ∧ M'.ob = M.ob ∧ Frm M.own w w' ∧ ∀ k, M'.own k → M.own k ∨ w.heap.size ≤ k
theorem StepP.same {w w' : World} {B : Nat} {M : FM} (h : FlP w B M) (F : Fresh w w') : StepP w B M w' :=
  ⟨M, h.fresh F, rfl, rfl, rfl, F.frm, fun k hk => .inl hk⟩
theorem StepP.trans {w w1 w2 : World} {B : Nat} {M : FM} (h : StepP w B M w1) (k : ∀ M1, FlP w1 B M1 → M1.f = M.f → M1.hb = M.hb → M1.ob = M.ob → StepP w1 B M1 w2) : StepP w B M w2 := by
  obtain ⟨M1, a1, a2, a3, a4, a5, a6⟩ := h
  obtain ⟨M2, b1, b2, b3, b4, b5, b6⟩ := k M1 a1 a2 a3 a4
  refine ⟨M2, b1, b2.trans a2, b3.trans a3, b4.trans a4, a5.trans' b5 (fun i hi hk => ?_), fun j hj => ?_⟩
  · rcases a6 i hk with h | h
    · exact h
    · omega
  · rcases b6 j hj with h | h
    · rcases a6 j h with h | h
      · exact .inl h
      · exact .inr h
    · exact .inr (Nat.le_trans a5.size h)
end
section
open Go.RowKit
def PLeftPost (w : World) (n : Nat) (e : Ending) (w' : World) : Prop := ∃ (v : Value) (l : List Int), e = .returned v ∧ l.length = n ∧ Sl w' w.heap.size 3 1 v l.length (ivs l) ∧ Fresh w w'
theorem pLeft_any (w : World) (B : Nat) (M : FM) (h : FlP w B M) :
    Calls Tryz.prog 24 #[.pointer (some ⟨M.f, 0, none⟩)] w fun e w' => PLeftPost w M.ls.length e w' := by
  obtain ⟨A3, c3, hv3, n3, m3, _⟩ := h.l.shape
  obtain ⟨A4, c4, hv4, n4, m4, _⟩ := h.s.shape
  have hy : ∀ w', Fresh w w' → w'.cell? ⟨M.f, 3, none⟩ = some (.slice A3 M.ls.length c3) ∧ w'.cell? ⟨M.f, 4, none⟩ = some (.slice A4 M.ss.length c4) := fun w' F => by
    obtain ⟨_, _, _, y3, y4, _⟩ := (h.fresh F).cells
    rw [y3, y4, hv3, hv4]
    exact ⟨rfl, rfl⟩
  have hl := h.l
  have hs := h.s
  rw [hv3] at hl
  rw [hv4] at hs
  have HY := zh hy
  have HL : Hid (∀ w', Fresh w w' → Rd w' w'.heap.size A3 (M.ls.map iv)) := zh fun w' F => (hl.fresh F).rd
  have HS : Hid (∀ w', Fresh w w' → Rd w' w'.heap.size A4 (M.ss.map iv)) := zh fun w' F => (hs.fresh F).rd
  have h8 := h.ll
  obtain ⟨y3, y4⟩ := hy w (Frm.refl _ _)
  generalize M.ls = ls at *
  generalize M.ss = ss at *
  have hmk := make_ints ls.length (by omega) w
  have hz := zarr_sl w ls.length (by omega)
  obtain ⟨f, hf⟩ : ∃ x, x = M.f := ⟨_, rfl⟩
  rw [← hf] at HY y3 y4 ⊢
  clear hf h hy hl hs hv3 hv4 m3 m4 n3 n4
  go_in
  go_wp2_with fail
  have HZ : Hid (Sl (w.alloc (.cells (zarr ls.length) 3)) w.heap.size 3 1 (.slice (some ⟨w.heap.size, 0, none⟩) ls.length ls.length) ls.length (ivs (List.replicate ls.length 0))) := zh hz
  have HFA := zh ((Frm.refl (fun _ => False) w).alloc (.cells (zarr ls.length) 3))
  obtain ⟨g, hg⟩ : ∃ x, x = w.heap.size := ⟨_, rfl⟩
  rw [← hg] at HZ ⊢
  have HG : Hid (w.heap.size ≤ g) := zh (by omega)
  clear hg hz hmk y3 y4
  generalize w.alloc (.cells (zarr ls.length) 3) = w1 at HZ HFA ⊢
  go_loopw [13] (fun v13 wr => ∃ (i : Nat) (ol : List Int), i ≤ ls.length ∧ ol.length = ls.length ∧ v13 = .int .i64 (i : Int) ∧ Sl wr g 3 1 (.slice (some ⟨g, 0, none⟩) ls.length ls.length) ls.length (ivs ol) ∧ Fresh w wr) (fun v13 _ => ls.length - (RowKit.intOf v13).toNat)
  case atStart => exact ⟨0, List.replicate ls.length 0, by omega, by simp, rfl, HZ.out, HFA.out⟩
  case round =>
    obtain ⟨i, ol, hi, hol, rfl, hsl, hf⟩ := hrel
    have hi0 : (0 : Int) ≤ (i : Int) := by omega
    have HO := zh hol
    have HSL := zh hsl
    have HF := zh hf
    obtain ⟨y3, y4⟩ := HY.out _ hf
    clear hol hsl hf HZ HFA
    by_cases hlt : i < ls.length
    · have hlti : (i : Int) < (ls.length : Int) := by omega
      have HLF : Hid (∀ w', Fresh w w' → Calls Tryz.prog 55 #[.slice A3 ls.length c3, .slice A4 ss.length c4, .int .i64 (i : Int)] w' fun e w'' => LeftPost ls ss (i : Int) w' e w'') := zh fun w' F => left_any w' A3 c3 ls A4 c4 ss (i : Int) (HL.out w' F) (HS.out w' F)
      have HC : Hid (∀ w', Fresh wr w' → ∃ u, w'.cell? ⟨g, i, none⟩ = some u ∧ w'.frozen? ⟨g, i, none⟩ = false) := zh fun w' F => by
        have h1 := HSL.out.fresh F
        have h2 := h1.cell (j := i) (by unfold ivs; rw [List.length_map, HO.out]; exact hlt)
        rw [Nat.zero_add] at h2
        exact ⟨_, h2, h1.frozen i⟩
      go_wp2_with fail
      go_region_held3 (fun w' => w'.cell? ⟨f, 3, none⟩ = some (.slice A3 ls.length c3) ∧ w'.cell? ⟨f, 4, none⟩ = some (.slice A4 ss.length c4))
        (first | exact HY.out _ (HF.out.drew.trans HF5.out) | exact HY.out _ ((HF.out.drew.trans HF5.out).setCell (p := ⟨g, i, none⟩) (fun h => by have := HG.out; dsimp only at h; omega) _) | go_keep)
        ((go_at_call 55; refine (HLF.out _ HF.out.drew).mono ?_; rintro e w5 ⟨x, y, rfl, f5, hx⟩; have HF5 := zh f5; obtain ⟨u, hu, hz⟩ := HC.out _ ((Frm.refl _ _).drew.trans f5); clear f5 hx))
      have HSN : Hid (Sl (w5.setCell ⟨g, i, none⟩ (.int .i64 x)) g 3 1 (.slice (some ⟨g, 0, none⟩) ls.length ls.length) ls.length (ivs (ol.set i x))) := zh (by
        have := (HSL.out.drew.fresh HF5.out).store (j := i) (by unfold ivs; rw [List.length_map, HO.out]; exact hlt) (.int .i64 x)
        rw [Nat.zero_add] at this
        unfold ivs at this ⊢
        rw [List.map_set]
        exact this)
      have HFN : Hid (Fresh w (w5.setCell ⟨g, i, none⟩ (.int .i64 x))) := zh ((HF.out.drew.trans HF5.out).setCell (p := ⟨g, i, none⟩) (fun h => by have := HG.out; dsimp only at h; omega) _)
      go_wp2_with fail
      go_roundw
      case rel => exact ⟨i + 1, ol.set i x, by omega, by rw [List.length_set]; exact HO.out, by go_num, HSN.out, HFN.out⟩
      case measure => simp [RowKit.intOf]; omega
    · have hlti : ¬ (i : Int) < (ls.length : Int) := by omega
      go_wp2_with fail
      go_ret
      refine ⟨_, ol, rfl, HO.out, ?_, HF.out⟩
      rw [HO.out]
      exact HSL.out.less HG.out
end
section
open Go.RowKit
def updH (m : Int → Option HoldM) (k : Int) (x : Option HoldM) : Int → Option HoldM := fun j => if j = k then x else m j
def updO (m : Int → Option Int) (k : Int) (x : Option Int) : Int → Option Int := fun j => if j = k then x else m j
theorem hv_upd (M : FM) (k : Int) (x : Option HoldM) : ({ M with h := updH M.h k x } : FM).hv = upd M.hv k (x.map HoldM.ptr) := by
  funext j
  unfold FM.hv updH upd
  dsimp only
  split <;> rfl
theorem ov_upd (M : FM) (k : Int) (x : Option Int) : ({ M with o := updO M.o k x } : FM).ov = upd M.ov k (x.map (Value.int .i64)) := by
  funext j
  unfold FM.ov updO upd
  dsimp only
  split <;> rfl
section
variable {w w' : World} {B : Nat} {M : FM}
theorem FlP.setS (h : FlP w B M) (v : Value) (ss' : List Int) (hs : Sl w B 3 1 v ss'.length (ivs ss')) (hl : ss'.length ≤ 8) (hn : ∀ g, v.ownBlock = some g → ∀ k x, M.h k = some x → x.v.ownBlock ≠ some g) :
    FlP (w.setCell ⟨M.f, 4, none⟩ v) B { M with sv := v, ss := ss' } ∧ Frm (fun k => k = M.f) w (w.setCell ⟨M.f, 4, none⟩ v) := by
  have F : Frm (fun k => k = M.f) w (w.setCell ⟨M.f, 4, none⟩ v) := (Frm.refl (fun k => k = M.f) w).setCell (p := ⟨M.f, 4, none⟩) (fun _ => rfl) _
  have hi : ∀ {v : Value} {n : Nat} {xs : List Value}, Sl w B 3 1 v n xs → Sl (w.setCell ⟨M.f, 4, none⟩ v) B 3 1 v n xs := fun {v n xs} hs => hs.frm ((Frm.refl (fun k => k = M.f) w).setCell (p := ⟨M.f, 4, none⟩) (fun _ => rfl) _) (fun k hk e => by subst e; exact hs.apart h.blk (by decide) hk)
  have hi2 : ∀ {u : Value} {n : Nat} {xs : List Value}, Sl w B 3 1 u n xs → Sl (w.setCell ⟨M.f, 4, none⟩ v) B 3 1 u n xs := fun {u n xs} hs => hs.frm F (fun k hk e => by subst e; exact hs.apart h.blk (by decide) hk)
  refine ⟨⟨?_, h.bf, h.bh, h.bo, h.wn, h.wr, hi2 h.g, h.gs, hi2 h.l, h.ll, h.lw, hi2 hs, hl, h.hm.frm F (h.hm.not_cells h.blk), h.om.frm F (h.om.not_cells h.blk), ?_, h.ok, h.ho, h.ap, ?_⟩, F⟩
  · have := h.blk.set 4 v
    exact this
  · intro k x hx
    obtain ⟨a, b⟩ := h.hk k x hx
    exact ⟨a, b.frm F (b.blk.apart h.blk (by decide)) (fun j hj e => by subst e; exact b.sl.apart h.blk (by decide) hj)⟩
  · intro k x hx g hg
    obtain ⟨a, b, c⟩ := h.ag k x hx g hg
    exact ⟨a, b, fun e => hn g e k x hx hg⟩
theorem FlP.putH (h : FlP w B M) {k : Int} (hk : 1 ≤ k ∧ k ≤ 28629151) (x : HoldM) (hx : HoldP w B x) (hxp : ∀ j y, M.h j = some y → j ≠ k → y.p ≠ x.p ∧ ∀ g, y.v.ownBlock = some g → x.v.ownBlock ≠ some g)
    (hxg : ∀ g, x.v.ownBlock = some g → M.gv.ownBlock ≠ some g ∧ M.lv.ownBlock ≠ some g ∧ M.sv.ownBlock ≠ some g) (hm : MapV w' M.hb (upd M.hv k (some x.ptr))) (F : Frm (fun j => j = M.hb) w w') : FlP w' B { M with h := updH M.h k (some x) } := by
  have hi : ∀ {u : Value} {e n : Nat} {xs : List Value}, Sl w B e 1 u n xs → Sl w' B e 1 u n xs := fun {u e n xs} hs => hs.frm F (fun j hj e => by subst e; obtain ⟨_, cs, hc⟩ := own_type hs hj; exact h.hm.not_cells hc rfl)
  have hb : ∀ {g : Nat} {t : TypeId} {cs : Array Value}, Blk w g t cs → Blk w' g t cs := fun {g t cs} hb => hb.frm F (fun e => h.hm.not_cells hb e.symm)
  have hh : ∀ {y : HoldM}, HoldP w B y → HoldP w' B y := fun {y} hy => ⟨hb hy.blk, hy.ge, hy.wo, hy.wc, hy.wm, hy.mb, hy.lb, hy.sb, hi hy.sl⟩
  refine ⟨hb h.blk, h.bf, h.bh, h.bo, h.wn, h.wr, hi h.g, h.gs, hi h.l, h.ll, h.lw, hi h.s, h.sl, ?_, h.om.frm F (fun e => h.ho e.symm), ?_, h.ok, h.ho, ?_, ?_⟩
  · rw [hv_upd]; exact hm
  · intro j y hy
    dsimp only at hy
    unfold updH at hy
    split at hy
    · rename_i e
      injection hy with hy
      subst hy e
      exact ⟨hk, hh hx⟩
    · exact ⟨(h.hk j y hy).1, hh (h.hk j y hy).2⟩
  · intro j y j' y' hy hy' hne
    dsimp only at hy hy'
    unfold updH at hy hy'
    split at hy
    · rename_i e
      injection hy with hy
      subst hy
      rw [if_neg (by omega)] at hy'
      obtain ⟨a, b⟩ := hxp j' y' hy' (by omega)
      exact ⟨fun e => a e.symm, fun g hg hg' => b g hg' hg⟩
    · split at hy'
      · rename_i e e'
        injection hy' with hy'
        subst hy'
        exact hxp j y hy e
      · exact h.ap j y j' y' hy hy' hne
  · intro j y hy
    dsimp only at hy
    unfold updH at hy
    split at hy
    · injection hy with hy
      subst hy
      exact hxg
    · exact h.ag j y hy
theorem FlP.delH (h : FlP w B M) (k : Int) (hm : MapV w' M.hb (upd M.hv k none)) (F : Frm (fun j => j = M.hb) w w') : FlP w' B { M with h := updH M.h k none } := by
  have hi : ∀ {u : Value} {e n : Nat} {xs : List Value}, Sl w B e 1 u n xs → Sl w' B e 1 u n xs := fun {u e n xs} hs => hs.frm F (fun j hj e => by subst e; obtain ⟨_, cs, hc⟩ := own_type hs hj; exact h.hm.not_cells hc rfl)
  have hb : ∀ {g : Nat} {t : TypeId} {cs : Array Value}, Blk w g t cs → Blk w' g t cs := fun {g t cs} hb => hb.frm F (fun e => h.hm.not_cells hb e.symm)
  have hh : ∀ {y : HoldM}, HoldP w B y → HoldP w' B y := fun {y} hy => ⟨hb hy.blk, hy.ge, hy.wo, hy.wc, hy.wm, hy.mb, hy.lb, hy.sb, hi hy.sl⟩
  have hold : ∀ {j y}, updH M.h k none j = some y → M.h j = some y := fun {j y} hy => by
    unfold updH at hy
    split at hy
    · cases hy
    · exact hy
  refine ⟨hb h.blk, h.bf, h.bh, h.bo, h.wn, h.wr, hi h.g, h.gs, hi h.l, h.ll, h.lw, hi h.s, h.sl, ?_, h.om.frm F (fun e => h.ho e.symm), ?_, h.ok, h.ho, ?_, ?_⟩
  · rw [hv_upd]; exact hm
  · intro j y hy
    exact ⟨(h.hk j y (hold hy)).1, hh (h.hk j y (hold hy)).2⟩
  · intro j y j' y' hy hy'
    exact h.ap j y j' y' (hold hy) (hold hy')
  · intro j y hy
    exact h.ag j y (hold hy)
theorem FlP.putO (h : FlP w B M) {k : Int} (z : Option Int) (hk : z.isSome = true → 0 ≤ k ∧ k < 600) (hm : MapV w' M.ob (upd M.ov k (z.map (Value.int .i64)))) (F : Frm (fun j => j = M.ob) w w') : FlP w' B { M with o := updO M.o k z } := by
  have hi : ∀ {u : Value} {e n : Nat} {xs : List Value}, Sl w B e 1 u n xs → Sl w' B e 1 u n xs := fun {u e n xs} hs => hs.frm F (fun j hj e => by subst e; obtain ⟨_, cs, hc⟩ := own_type hs hj; exact h.om.not_cells hc rfl)
  have hb : ∀ {g : Nat} {t : TypeId} {cs : Array Value}, Blk w g t cs → Blk w' g t cs := fun {g t cs} hb => hb.frm F (fun e => h.om.not_cells hb e.symm)
  have hh : ∀ {y : HoldM}, HoldP w B y → HoldP w' B y := fun {y} hy => ⟨hb hy.blk, hy.ge, hy.wo, hy.wc, hy.wm, hy.mb, hy.lb, hy.sb, hi hy.sl⟩
  refine ⟨hb h.blk, h.bf, h.bh, h.bo, h.wn, h.wr, hi h.g, h.gs, hi h.l, h.ll, h.lw, hi h.s, h.sl, h.hm.frm F h.ho, ?_, (fun j y hy => ⟨(h.hk j y hy).1, hh (h.hk j y hy).2⟩), ?_, h.ho, h.ap, h.ag⟩
  · rw [ov_upd]; exact hm
  · intro j y hy
    dsimp only at hy
    unfold updO at hy
    split at hy
    · rename_i e
      subst e
      exact hk (by rw [hy]; rfl)
    · exact h.ok j y hy
theorem FlP.tellX {w1 : World} (h : FlP w B M) {k : Int} {x : HoldM} (hx : M.h k = some x) (v : Value) (l : List Int) (F : Frm (fun j => x.v.ownBlock = some j) w w1) (hs : Sl w1 B 3 1 v l.length (ivs l)) (hl : l.length ≤ 10000) (hsb : seatB l)
    (hv : v.ownBlock = x.v.ownBlock ∨ ∃ j, v.ownBlock = some j ∧ w.heap.size ≤ j) :
    FlP (w1.setCell ⟨x.p, 3, none⟩ v) B { M with h := updH M.h k (some { x with v := v, l := l }) } ∧ Frm M.own w (w1.setCell ⟨x.p, 3, none⟩ v) := by
  obtain ⟨hk, hxp⟩ := h.hk k x hx
  have F2 : Frm (fun j => j = x.p) w1 (w1.setCell ⟨x.p, 3, none⟩ v) := (Frm.refl (fun j => j = x.p) w1).setCell (p := ⟨x.p, 3, none⟩) (fun _ => rfl) _
  have FF : Frm (fun j => x.v.ownBlock = some j ∨ j = x.p) w (w1.setCell ⟨x.p, 3, none⟩ v) := (F.mono (fun i _ e => .inl e)).trans (F2.mono (fun i _ e => .inr e))
  have hpl : x.p < w.heap.size := hxp.blk.lt
  have hpne : x.v.ownBlock ≠ some x.p := hxp.sl.apart hxp.blk (by decide)
  -- what lies in blocks of other types, or in other lists of numbers
  have hi : ∀ {u : Value} {n : Nat} {xs : List Value}, Sl w B 3 1 u n xs → (∀ g, x.v.ownBlock = some g → u.ownBlock ≠ some g) → Sl (w1.setCell ⟨x.p, 3, none⟩ v) B 3 1 u n xs := fun {u n xs} hs hn => hs.frm FF (fun j hj e => by
    rcases e with e | e
    · exact hn j e hj
    · subst e; exact hs.apart hxp.blk (by decide) hj)
  have hnb : ∀ {g : Nat} {t : TypeId} {cs : Array Value}, Blk w g t cs → t ≠ 3 → x.v.ownBlock ≠ some g := fun {g t cs} hb hne e => hxp.sl.apart hb (fun e => hne e.symm) e
  have hmp : ∀ {b : Nat} {m : Int → Option Value}, MapV w b m → MapV (w1.setCell ⟨x.p, 3, none⟩ v) b m := fun {b m} hm => hm.frm FF (fun e => by
    rcases e with e | e
    · obtain ⟨_, cs, hc⟩ := own_type hxp.sl e; exact hm.not_cells hc rfl
    · exact hm.not_cells hxp.blk e)
  have hh : ∀ {j y}, M.h j = some y → j ≠ k → HoldP (w1.setCell ⟨x.p, 3, none⟩ v) B y := fun {j y} hy hne => by
    obtain ⟨a, b⟩ := h.hk j y hy
    obtain ⟨c1, c2⟩ := h.ap j y k x hy hx hne
    refine b.frm FF (fun e => ?_) (fun g hg e => ?_)
    · rcases e with e | e
      · exact hnb b.blk (by decide) e
      · exact c1 e
    · rcases e with e | e
      · exact c2 g hg e
      · subst e; exact b.sl.apart hxp.blk (by decide) hg
  refine ⟨⟨?_, h.bf, h.bh, h.bo, h.wn, h.wr, hi h.g (fun g hg => (h.ag k x hx g hg).1), h.gs, hi h.l (fun g hg => (h.ag k x hx g hg).2.1), h.ll, h.lw, hi h.s (fun g hg => (h.ag k x hx g hg).2.2), h.sl, ?_, hmp h.om, ?_, h.ok, h.ho, ?_, ?_⟩, FF.mono (fun i _ e => ?_)⟩
  · exact h.blk.frm FF (fun e => by
      rcases e with e | e
      · exact hnb h.blk (by decide) e
      · exact h.blk.apart hxp.blk (by decide) e)
  · rw [hv_upd]
    have e : upd M.hv k (some ({ x with v := v, l := l } : HoldM).ptr) = M.hv := by
      funext j
      unfold upd
      split
      · rename_i e
        subst e
        unfold FM.hv
        rw [hx]
        rfl
      · rfl
    show MapV _ _ (upd M.hv k (some ({ x with v := v, l := l } : HoldM).ptr))
    rw [e]
    exact hmp h.hm
  · intro j y hy
    dsimp only at hy
    unfold updH at hy
    split at hy
    · rename_i e
      injection hy with hy
      subst hy e
      refine ⟨hk, ⟨?_, hxp.ge, hxp.wo, hxp.wc, hxp.wm, hxp.mb, hl, hsb, hs.frm F2 (fun g hg e => ?_)⟩⟩
      · have := (hxp.blk.frm F hpne).set 3 v
        exact this
      · subst e
        rcases hv with e | ⟨j, e, he⟩
        · exact hpne (by rw [← e]; exact hg)
        · rw [hg] at e; injection e with e; omega
    · rename_i e
      exact ⟨(h.hk j y hy).1, hh hy e⟩
  · intro j y j' y' hy hy' hne
    have hnew : ∀ g, v.ownBlock = some g → ∀ i z, M.h i = some z → i ≠ k → z.v.ownBlock ≠ some g := fun g hg i z hz hik hzg => by
      rcases hv with e | ⟨j, e, he⟩
      · exact (h.ap i z k x hz hx hik).2 g hzg (by rw [← e]; exact hg)
      · rw [hg] at e; injection e with e
        have := ((h.hk i z hz).2.sl.lt g hzg).2; omega
    dsimp only at hy hy'
    unfold updH at hy hy'
    split at hy
    · rename_i e
      injection hy with hy
      subst hy
      rw [if_neg (by omega)] at hy'
      exact ⟨fun e => (h.ap j' y' k x hy' hx (by omega)).1 e.symm, fun g hg hg' => hnew g hg j' y' hy' (by omega) hg'⟩
    · split at hy'
      · rename_i e e'
        injection hy' with hy'
        subst hy'
        exact ⟨(h.ap j y k x hy hx e).1, fun g hg hg' => hnew g hg' j y hy e hg⟩
      · exact h.ap j y j' y' hy hy' hne
  · intro j y hy g hg
    dsimp only at hy
    unfold updH at hy
    split at hy
    · injection hy with hy
      subst hy
      rcases hv with e | ⟨i, e, he⟩
      · exact h.ag k x hx g (by rw [← e]; exact hg)
      · dsimp only at hg
        rw [hg] at e; injection e with e
        refine ⟨fun e2 => ?_, fun e2 => ?_, fun e2 => ?_⟩
        · have := (h.g.lt g e2).2; omega
        · have := (h.l.lt g e2).2; omega
        · have := (h.s.lt g e2).2; omega
    · exact h.ag j y hy g hg
  · rcases e with e | e
    · exact .inr (.inr (.inr (.inr (.inr (.inr ⟨k, x, hx, .inr e⟩)))))
    · exact .inr (.inr (.inr (.inr (.inr (.inr ⟨k, x, hx, .inl e.symm⟩)))))
end
end
section
open Go.RowKit
def TellPost (w : World) (B : Nat) (M : FM) (k : Int) (x : HoldM) (e : Ending) (w' : World) : Prop :=
  e = .returned (.tuple #[]) ∧ ∃ (M' : FM) (x' : HoldM), FlP w' B M' ∧ M'.f = M.f ∧ M'.hb = M.hb ∧ M'.ob = M.ob ∧ M'.h k = some x' ∧ x'.p = x.p ∧ x'.l.length = x.l.length + 1 ∧ Frm M.own w w' ∧ ∀ j, M'.own j → M.own j ∨ w.heap.size ≤ j
theorem updH_same (m : Int → Option HoldM) (k : Int) (x : Option HoldM) : updH m k x k = x := if_pos rfl
theorem own_tell {w : World} {B : Nat} {M : FM} (h : FlP w B M) {k : Int} {x : HoldM} (hx : M.h k = some x) (v : Value) (l : List Int) (o : Int → Option Int) (hv : v.ownBlock = x.v.ownBlock ∨ ∃ j, v.ownBlock = some j ∧ w.heap.size ≤ j) :
    ∀ j, ({ { M with h := updH M.h k (some { x with v := v, l := l }) } with o := o } : FM).own j → M.own j ∨ w.heap.size ≤ j := by
  intro j hj
  rcases hj with e | e | e | e | e | e | ⟨i, y, hy, e⟩
  · exact .inl (.inl e)
  · exact .inl (.inr (.inl e))
  · exact .inl (.inr (.inr (.inl e)))
  · exact .inl (.inr (.inr (.inr (.inl e))))
  · exact .inl (.inr (.inr (.inr (.inr (.inl e)))))
  · exact .inl (.inr (.inr (.inr (.inr (.inr (.inl e))))))
  · dsimp only at hy
    unfold updH at hy
    split at hy
    · injection hy with hy
      subst hy
      rcases e with e | e
      · exact .inl (.inr (.inr (.inr (.inr (.inr (.inr ⟨k, x, hx, .inl e⟩))))))
      · dsimp only at e
        rcases hv with h1 | ⟨g, h1, h2⟩
        · exact .inl (.inr (.inr (.inr (.inr (.inr (.inr ⟨k, x, hx, .inr (by rw [← h1]; exact e)⟩))))))
        · rw [h1] at e; injection e with e; right; omega
    · exact .inl (.inr (.inr (.inr (.inr (.inr (.inr ⟨i, y, hy, e⟩))))))
theorem seatB_ins {l : List Int} (h : seatB l) {n : Int} (hn : 0 ≤ n ∧ n < 600) (i : Nat) : seatB (l.take i ++ [n] ++ l.drop i) := by
  intro y hy
  rcases List.mem_append.1 hy with hy | hy
  · rcases List.mem_append.1 hy with hy | hy
    · exact h y (List.mem_of_mem_take hy)
    · rw [List.mem_singleton] at hy; rw [hy]; exact hn
  · exact h y (List.mem_of_mem_drop hy)
theorem tell_any (w : World) (B : Nat) (hB : B ≤ w.heap.size) (M : FM) (h : FlP w B M) (k : Int) (x : HoldM) (hx : M.h k = some x) (n : Int) (hn : 0 ≤ n ∧ n < 600) (hl : x.l.length < 10000) :
    Calls Tryz.prog 72 #[.pointer (some ⟨M.f, 0, none⟩), .pointer (some ⟨x.p, 0, none⟩), .int .i64 n] w fun e w' => TellPost w B M k x e w' := by
  obtain ⟨hk, hxp⟩ := h.hk k x hx
  obtain ⟨A3, c3, hv3, n3, m3, _⟩ := hxp.sl.shape
  have HH := zh h
  have HX := zh hx
  have HXP := zh hxp
  have hsl := hxp.sl
  rw [hv3] at hsl
  have y3 : w.cell? ⟨x.p, 3, none⟩ = some (.slice A3 x.l.length c3) := by rw [← hv3]; exact hxp.blk.cell 3
  have HS := zh (pSearch_any w A3 c3 x.l n hsl.rd (by omega))
  clear h hx hxp hk
  go_in
  go_wp2_with fail
  refine HS.out.mono ?_
  rintro e w1 ⟨i, b, hi, rfl, f1⟩
  have HF1 := zh f1
  have y3b : w1.cell? ⟨x.p, 3, none⟩ = some (.slice A3 x.l.length c3) := by rw [← hv3]; exact (HXP.out.blk.frm f1 (fun f => f)).cell 3
  have HSL1 : Hid (Sl (w1.alloc (.cells #[.int .i64 n] 3)) B 3 1 (.slice A3 x.l.length c3) x.l.length (ivs x.l)) := zh ((hsl.fresh f1).alloc _)
  have hB1 : B ≤ (w1.alloc (.cells #[.int .i64 n] 3)).heap.size := by have := f1.size; simp; omega
  have hown : (Value.slice A3 x.l.length c3).ownBlock ≠ some w1.heap.size := fun e => by have := ((hsl.fresh f1).lt _ e).2; omega
  have HI := zh (insertI_any (w1.alloc (.cells #[.int .i64 n] 3)) B _ _ _ HSL1.out hB1 (by omega) i hi (fun u hu => by unfold ivs at hu; obtain ⟨z, _, rfl⟩ := List.mem_map.1 hu; rfl) w1.heap.size [.int .i64 n] (Blk.new w1 _ _) rfl (fun u hu => by simp at hu; subst hu; rfl) hown)
  clear f1 y3 hsl hB1 hown n3 m3
  go_wp2_with fail
  refine HI.out.mono ?_
  rintro e w2 ⟨v, rfl, hs2, f2, hv2⟩
  obtain ⟨l', hl'⟩ : ∃ l', l' = x.l.take i ++ [n] ++ x.l.drop i := ⟨_, rfl⟩
  have hlen : l'.length = x.l.length + 1 := by rw [hl']; simp only [List.length_append, List.length_take, List.length_drop, List.length_singleton]; omega
  have hsl2 : Sl w2 B 3 1 v l'.length (ivs l') := by
    rw [hlen, hl']
    unfold ivs at hs2 ⊢
    rw [Nat.mul_one] at hs2
    rw [List.map_append, List.map_append, List.map_take, List.map_drop]
    exact hs2
  obtain ⟨A4, c4, hv4, _, _, _⟩ := hsl2.shape
  subst hv4
  have hsb' : seatB l' := by rw [hl']; exact seatB_ins HXP.out.sb hn i
  have FA : Fresh w (w1.alloc (.cells #[.int .i64 n] 3)) := HF1.out.trans ((Frm.refl _ w1).alloc _)
  have hxv : x.v = Value.slice A3 x.l.length c3 := hv3
  obtain ⟨hq, hfr⟩ := FlP.tellX (HH.out.fresh FA) HX.out (.slice A4 l'.length c4) l' (by rw [hxv]; exact f2) hsl2 (by omega) hsb' (by rw [hxv]; exact hv2)
  have hown := own_tell (HH.out.fresh FA) HX.out (.slice A4 l'.length c4) l' (updO M.o n (some x.ow)) (by rw [hxv]; exact hv2)
  obtain ⟨W, hW⟩ : ∃ W, W = w2.setCell ⟨x.p, 3, none⟩ (.slice A4 l'.length c4) := ⟨_, rfl⟩
  have hc3 : w2.cell? ⟨x.p, 3, none⟩ = some (.slice A3 x.l.length c3) := by rw [← hxv]; exact ((HXP.out.blk.frm FA (fun f => f)).frm f2 (by rw [← hxv]; exact fun e => HXP.out.sl.apart HXP.out.blk (by decide) e)).cell 3
  have hz3 : w2.frozen? ⟨x.p, 3, none⟩ = false := ((HXP.out.blk.frm FA (fun f => f)).frm f2 (by rw [← hxv]; exact fun e => HXP.out.sl.apart HXP.out.blk (by decide) e)).frozen 3
  rw [← hW] at hq hfr
  have HQ := zh hq
  have HFR : Hid (Frm M.own w W) := zh (FA.frm.trans hfr)
  have hmp : MapV W.drew M.ob M.ov := hq.om
  obtain ⟨w3, hput, hm3, hf3⟩ := hmp.put hq.okb (t := 131) Tryz.underlying131 (k := n) ⟨by omega, by omega⟩ (.int .i64 x.ow)
  have hf3' : Frm (fun j => j = M.ob) W w3 := ((Frm.refl _ W).drew).trans hf3
  have y5 : W.cell? ⟨M.f, 6, none⟩ = some (.map (some M.ob)) := hq.blk.cell 6
  have y6 : W.cell? ⟨x.p, 0, none⟩ = some (.int .i64 x.ow) := ((hq.hk k _ (updH_same M.h k _)).2.blk).cell 0
  have hp := FlP.putO hq (some x.ow) (k := n) (fun _ => hn) hm3 hf3'
  have z5 : w3.cell? ⟨M.f, 6, none⟩ = some (.map (some M.ob)) := hp.blk.cell 6
  have z6 : w3.cell? ⟨x.p, 0, none⟩ = some (.int .i64 x.ow) := ((hp.hk k _ (updH_same M.h k _)).2.blk).cell 0
  have HFIN : Hid (TellPost w B M k x (.returned (.tuple #[])) w3) := zh (by
    refine ⟨rfl, _, _, hp, rfl, rfl, rfl, (updH_same M.h k _), rfl, hlen, (FA.frm.trans hfr).trans' hf3' (fun i hi e => .inr (.inr (.inl e))), fun j hj => ?_⟩
    rcases hown j hj with h1 | h1
    · exact .inl h1
    · exact .inr (Nat.le_trans FA.size h1))
  clear hp hs2 f2 hv2 hl' hsl2 hsb' FA hxv hq hfr hown hmp hm3 hf3 hf3' hlen HI HSL1 y3b
  go_wp2_with fail
  rw [← hW]
  clear hW hc3 hz3
  go_region_held3 (fun w' => w'.cell? ⟨M.f, 6, none⟩ = some (.map (some M.ob)) ∧ w'.cell? ⟨x.p, 0, none⟩ = some (.int .i64 x.ow)) (first | assumption | go_keep) (fail)
  go_wp2_with fail
  go_end0
  exact HFIN.out
def CodePost (w : World) (B : Nat) (M : FM) (e : Ending) (w' : World) : Prop := ∃ k : Int, e = .returned (.int .i64 k) ∧ StepP w B M w'
theorem own_setS (M : FM) (v : Value) (ss : List Int) {j n : Nat} (hv : ∀ g, v.ownBlock = some g → n ≤ g) (h : ({ M with sv := v, ss := ss } : FM).own j) : M.own j ∨ n ≤ j := by
  rcases h with e | e | e | e | e | e | e
  · exact .inl (.inl e)
  · exact .inl (.inr (.inl e))
  · exact .inl (.inr (.inr (.inl e)))
  · exact .inl (.inr (.inr (.inr (.inl e))))
  · exact .inl (.inr (.inr (.inr (.inr (.inl e)))))
  · exact .inr (hv j e)
  · exact .inl (.inr (.inr (.inr (.inr (.inr (.inr e))))))
theorem own_putH (M : FM) (k : Int) (x : HoldM) {j n : Nat} (hp : n ≤ x.p) (hv : x.v.ownBlock = none) (h : ({ M with h := updH M.h k (some x) } : FM).own j) : M.own j ∨ n ≤ j := by
  rcases h with e | e | e | e | e | e | ⟨i, y, hy, e⟩
  · exact .inl (.inl e)
  · exact .inl (.inr (.inl e))
  · exact .inl (.inr (.inr (.inl e)))
  · exact .inl (.inr (.inr (.inr (.inl e))))
  · exact .inl (.inr (.inr (.inr (.inr (.inl e)))))
  · exact .inl (.inr (.inr (.inr (.inr (.inr (.inl e))))))
  · dsimp only at hy
    unfold updH at hy
    split at hy
    · injection hy with hy
      subst hy
      rcases e with e | e
      · exact .inr (by omega)
      · rw [hv] at e; cases e
    · exact .inl (.inr (.inr (.inr (.inr (.inr (.inr ⟨i, y, hy, e⟩))))))
theorem takeP_any (w : World) (B : Nat) (hB : B ≤ w.heap.size) (M : FM) (h : FlP w B M) (ow cl mn : Int) (h1 : wf64 ow) (h2 : wf64 cl) (h3 : wf64 mn) :
    Calls Tryz.prog 26 #[.pointer (some ⟨M.f, 0, none⟩), .int .i64 ow, .int .i64 cl, .int .i64 mn] w fun e w' => CodePost w B M e w' := by
  obtain ⟨A3, c3, hv3, n3, m3, _⟩ := h.l.shape
  obtain ⟨A4, c4, hv4, n4, m4, _⟩ := h.s.shape
  have hy : ∀ w', Fresh w w' → w'.cell? ⟨M.f, 3, none⟩ = some (.slice A3 M.ls.length c3) ∧ w'.cell? ⟨M.f, 4, none⟩ = some (.slice A4 M.ss.length c4) := fun w' F => by
    obtain ⟨_, _, _, y3, y4, _⟩ := (h.fresh F).cells
    rw [y3, y4, hv3, hv4]
    exact ⟨rfl, rfl⟩
  have y5 : w.cell? ⟨M.f, 5, none⟩ = some (.map (some M.hb)) := h.blk.cell 5
  have HY := zh hy
  obtain ⟨y3, y4⟩ := hy w (Frm.refl _ _)
  have hask := h.hm.ask (t := 130) Tryz.underlying130 (z := .pointer none) (fun _ => by kernel_rfl) (k := ow) h1
  have HH := zh h
  have HS := zh (sell_any w A3 c3 M.ls A4 c4 M.ss cl mn (by have := h.l; rw [hv3] at this; exact this.rd) (by have := h.s; rw [hv4] at this; exact this.rd) n4 m4)
  have HSD : Hid (∀ w', Fresh w w' → Calls Tryz.prog 56 #[.slice A3 M.ls.length c3, .slice A4 M.ss.length c4, .int .i64 cl, .int .i64 mn] w' fun e w'' => SoldPost M.ss (SellE M.ls M.ss cl mn) cl mn w' e w'') := zh fun w' F =>
    sell_any w' A3 c3 M.ls A4 c4 M.ss cl mn (by have := (h.fresh F).l; rw [hv3] at this; exact this.rd) (by have := (h.fresh F).s; rw [hv4] at this; exact this.rd) n4 m4
  have HST : Hid (∀ k : Int, CodePost w B M (.returned (.int .i64 k)) w) := zh fun k => ⟨k, rfl, StepP.same h (Frm.refl _ _)⟩
  clear hy h n3 m3 n4 m4
  by_cases g1 : 1 ≤ ow
  · have d1 : decide (ow < 1) = false := decide_eq_false (by omega)
    by_cases g2 : ow ≤ 28629151
    · have d2 : decide (28629151 < ow) = false := decide_eq_false (by omega)
      cases hx : M.hv ow with
      | some u =>
        rw [hx] at hask
        dsimp only [Option.getD, Option.isSome] at hask
        clear hx
        go_in
        go_wp2_with fail
        go_ret
        exact HST.out 7
      | none =>
        rw [hx] at hask
        dsimp only [Option.getD, Option.isSome] at hask
        have HX := zh hx
        clear hx
        go_in
        go_wp2_with fail
        go_region_held3 (fun w' => w'.cell? ⟨M.f, 3, none⟩ = some (.slice A3 M.ls.length c3) ∧ w'.cell? ⟨M.f, 4, none⟩ = some (.slice A4 M.ss.length c4))
          (first | exact HY.out _ ((Frm.refl _ _).drew.trans HF5.out) | go_keep)
          ((go_at_call 56; refine (HSD.out _ (Frm.refl _ _).drew).mono ?_; rintro e w5 ⟨v, y, rfl, hE, f5, hv5⟩; have HF5 := zh f5; have HE := zh hE; have HV5 := zh hv5; clear f5 hE hv5))
        rcases HV5.out with ⟨rfl, hsl⟩ | ⟨hy0, rfl⟩
        · obtain ⟨A5, c5, rfl, n5, m5, _⟩ := hsl.shape
          obtain ⟨ss', hss⟩ : ∃ l, l = NestM.plus M.ss cl.toNat mn := ⟨_, rfl⟩
          have hlen : ss'.length = M.ss.length := by
            have := hsl.1
            rw [hss]
            simpa using this
          have hmn : 1 ≤ mn ∧ mn ≤ 10000 := by
            rcases HE.out with ⟨_, a, b, _⟩ | ⟨_, _, _, _, e⟩ | ⟨_, e⟩
            · exact ⟨a, b⟩
            · omega
            · omega
          have F5 : Fresh w w5 := (Frm.refl _ _).drew.trans HF5.out
          have hsl5 : Sl w5 w.heap.size 3 1 (.slice A5 ss'.length c5) ss'.length (ivs ss') := by
            rw [hlen, hss]
            exact hsl
          obtain ⟨hq, hfr⟩ := FlP.setS (HH.out.fresh F5) (.slice A5 ss'.length c5) ss' (hsl5.less hB) (by have := HH.out.sl; omega) (fun g hg k x hx e => by
            have := (hsl5.lt g hg).1
            have := ((HH.out.hk k x hx).2.sl.lt g e).2
            omega)
          rw [hlen] at hq hfr
          have hX := HX.out
          unfold FM.hv at hX
          have hno : M.h ow = none := by
            cases hm : M.h ow with
            | none => rfl
            | some x => rw [hm] at hX; cases hX
          have hq2 := hq.fresh ((Frm.refl (fun _ => False) (w5.setCell ⟨M.f, 4, none⟩ (.slice A5 M.ss.length c5))).alloc (.cells #[.int .i64 ow, .int .i64 cl, .int .i64 mn, .slice none 0 0] 139))
          have HM2 := zh hq2.hm
          have HKB := zh hq2.hkb
          have hsz : w5.heap.size = (w5.setCell ⟨M.f, 4, none⟩ (.slice A5 M.ss.length c5)).heap.size := by simp [World.setCell]
          obtain ⟨p, hp⟩ : ∃ p, p = (w5.setCell ⟨M.f, 4, none⟩ (.slice A5 M.ss.length c5)).heap.size := ⟨_, rfl⟩
          have hwp : w.heap.size ≤ p := by rw [hp, ← hsz]; exact F5.size
          have hhold : HoldP ((w5.setCell ⟨M.f, 4, none⟩ (.slice A5 M.ss.length c5)).alloc (.cells #[.int .i64 ow, .int .i64 cl, .int .i64 mn, .slice none 0 0] 139)) B ⟨p, ow, cl, mn, .slice none 0 0, []⟩ :=
            ⟨by rw [hp]; exact Blk.new _ _ _, by show B ≤ p; omega, h1, h2, h3, hmn.2, by simp, (fun x hx => by cases hx), Sl.nil _ _ _ _⟩
          have HFIN : Hid (∀ w6, MapV w6 M.hb (upd M.hv ow (some (.pointer (some ⟨p, 0, none⟩)))) → Frm (fun j => j = M.hb) ((w5.setCell ⟨M.f, 4, none⟩ (.slice A5 M.ss.length c5)).alloc (.cells #[.int .i64 ow, .int .i64 cl, .int .i64 mn, .slice none 0 0] 139)) w6 → CodePost w B M (.returned (.int .i64 0)) w6) := zh fun w6 hm6 hf6 => by
            have hp6 := FlP.putH hq2 (k := ow) ⟨g1, g2⟩ ⟨p, ow, cl, mn, .slice none 0 0, []⟩ hhold (fun j y hy _ => ⟨fun e => by have := ((HH.out.hk j y hy).2.blk).lt; dsimp only at e; omega, fun g _ e => by simp [Value.ownBlock] at e⟩) (fun g e => by simp [Value.ownBlock] at e) hm6 hf6
            refine ⟨0, rfl, _, hp6, rfl, rfl, rfl, ?_, fun j hj => ?_⟩
            · exact ((F5.frm.trans (hfr.mono (fun i _ e => .inl e))).trans ((Frm.refl M.own _).alloc _)).trans (hf6.mono (fun i _ e => .inr (.inl e)))
            · rcases own_putH _ ow ⟨p, ow, cl, mn, .slice none 0 0, []⟩ (n := w.heap.size) hwp rfl hj with h7 | h7
              · exact own_setS M _ ss' (fun g hg => by
                  have := (hsl5.lt g (by rw [hlen]; exact hg)).1
                  exact this) h7
              · exact .inr h7
          have hy4 : w5.cell? ⟨M.f, 4, none⟩ = some (.slice A4 M.ss.length c4) := (HY.out _ F5).2
          have hz4 : w5.frozen? ⟨M.f, 4, none⟩ = false := ((HH.out.fresh F5).blk).frozen 4
          have hy5 : w5.cell? ⟨M.f, 5, none⟩ = some (.map (some M.hb)) := ((HH.out.fresh F5).blk).cell 5
          rw [hp, ← hsz] at HFIN
          clear hsl hss hlen hmn F5 hsl5 hq hfr hX hno hq2 hsz hp hwp hhold n5 m5
          go_wp2_with (at_mapUpdate; refine wpList_putV _ rfl _ _ _ 130 rfl Tryz.underlying130 M.hb _ rfl HM2.out HKB.out _ _ rfl rfl h1 ?_; intro w6 hm6 hf6; have HFN := zh (HFIN.out w6 hm6 hf6); clear hm6 hf6)
          go_ret
          exact HFN.out
        · have HFN : Hid (CodePost w B M (.returned (.int .i64 y)) w5) := zh ⟨y, rfl, StepP.same HH.out ((Frm.refl _ _).drew.trans HF5.out)⟩
          have d3 : (y == 0) = false := by rw [beq_eq_false_iff_ne]; exact hy0
          clear hy0
          go_wp2_with fail
          go_ret
          exact HFN.out
    · have d2 : decide (28629151 < ow) = true := decide_eq_true (by omega)
      clear g2
      go_in
      go_wp2_with fail
      go_ret
      exact HST.out 1
  · have d1 : decide (ow < 1) = true := decide_eq_true (by omega)
    clear g1
    go_in
    go_wp2_with fail
    go_ret
    exact HST.out 1
end
end Go.Proofs.YtbeaoddjomdlcaaGreatDoor

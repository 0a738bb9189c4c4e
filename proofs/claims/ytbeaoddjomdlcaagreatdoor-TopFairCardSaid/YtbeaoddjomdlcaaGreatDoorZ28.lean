/- Proved here, for the statement TopFairCardSaid: laws that its walk leans on. It holds with no condition. (Put together and shortened by a program out of many texts: To33, To34, To35, To36, To37, To40.) -/
import Derived.Test.YtbeaoddjomdlcaaGreatDoorZ27
set_option linter.unusedVariables false
set_option linter.unusedSimpArgs false
set_option maxRecDepth 100000
set_option maxHeartbeats 64000000
namespace Go.Proofs.YtbeaoddjomdlcaaGreatDoor
section
open Go.RowKit
open QueueM (Wt)
structure PlM where
  M : FM
  q : Nat
  v : Value
  ws : List Wt
def PlM.val (x : PlM) : Value := .agg #[.pointer (some ⟨x.M.f, 0, none⟩), .pointer (some ⟨x.q, 0, none⟩)]
def PlM.own (x : PlM) (k : Nat) : Prop := x.M.own k ∨ k = x.q ∨ x.v.ownBlock = some k
structure PlP (w : World) (B : Nat) (k : Int) (x : PlM) : Prop where
  kb : 1 ≤ k ∧ k ≤ 9999
  f : FlP w B x.M
  q : IsQ w B x.q x.v x.ws
  g : QueueM.Good x.ws
  wd : Words x.ws
structure BkM where
  p : Nat
  id : Int
  fl : Int
  cl : Int
  mn : Int
  st : Int
  un : Int
def BkM.ptr (y : BkM) : Value := .pointer (some ⟨y.p, 0, none⟩)
def BkM.cells (y : BkM) : Array Value := #[.int .i64 y.id, .int .i64 y.fl, .int .i64 y.cl, .int .i64 y.mn, .int .i64 y.st, .int .i64 y.un]
structure BkP (w : World) (B : Nat) (k : Int) (y : BkM) : Prop where
  blk : Blk w y.p 84 y.cells
  ge : B ≤ y.p
  id : y.id = k
  kb : 1 ≤ k
  wf : wf64 y.fl ∧ wf64 y.cl ∧ wf64 y.mn ∧ wf64 y.st ∧ wf64 y.un
structure BoM where
  b : Nat
  fm : Nat
  bm : Nat
  tm : Int
  nx : Int
  P : Int → Option PlM
  K : Int → Option BkM
def BoM.fv (b : BoM) : Int → Option Value := fun k => (b.P k).map PlM.val
def BoM.kv (b : BoM) : Int → Option Value := fun k => (b.K k).map BkM.ptr
def BoM.wt (b : BoM) : Prop := ∀ k x, b.P k = some x → ∀ u ∈ x.ws, ∃ y, b.K u.id = some y ∧ y.fl = k ∧ y.st = 3
structure BookP (w : World) (B : Nat) (b : BoM) : Prop where
  blk : Blk w b.b 45 #[.int .i64 b.tm, .int .i64 b.nx, .map (some b.fm), .map (some b.bm)]
  bb : B ≤ b.b
  bf : B ≤ b.fm
  bk : B ≤ b.bm
  ne : b.fm ≠ b.bm
  tw : 0 ≤ b.tm ∧ b.tm ≤ 1099511627776
  nw : 1 ≤ b.nx ∧ b.nx ≤ 28629151
  fmv : MapV w b.fm b.fv
  bmv : MapV w b.bm b.kv
  pl : ∀ k x, b.P k = some x → PlP w B k x ∧ ¬ x.own b.fm ∧ ¬ x.own b.bm
  ap : ∀ k x k' x', b.P k = some x → b.P k' = some x' → k ≠ k' → ∀ j, x.own j → ¬ x'.own j
  bo : ∀ k y, b.K k = some y → BkP w B k y ∧ k < b.nx ∧ ∃ x, b.P y.fl = some x
  bp : ∀ k y k' y', b.K k = some y → b.K k' = some y' → k ≠ k' → y.p ≠ y'.p
  few : ∃ ks : List Int, ks.length ≤ 8 ∧ ∀ k, (b.P k).isSome = true → k ∈ ks
section
variable {w w' : World} {B : Nat}
theorem isQ_frm {b : Nat} {v : Value} {l : List Wt} {S : Nat → Prop} (h : IsQ w B b v l) (F : Frm S w w') (h1 : ¬ S b) (h2 : ∀ k, v.ownBlock = some k → ¬ S k) : IsQ w' B b v l :=
  ⟨h.blk.frm F h1, h.ge, h.sl.frm F h2⟩
theorem PlP.frm {k : Int} {x : PlM} {S : Nat → Prop} (h : PlP w B k x) (F : Frm S w w') (hS : ∀ j, x.own j → ¬ S j) : PlP w' B k x :=
  ⟨h.kb, h.f.frm F (fun j hj => hS j (.inl hj)), isQ_frm h.q F (hS _ (.inr (.inl rfl))) (fun j hj => hS j (.inr (.inr hj))), h.g, h.wd⟩
theorem BkP.frm {k : Int} {y : BkM} {S : Nat → Prop} (h : BkP w B k y) (F : Frm S w w') (hS : ¬ S y.p) : BkP w' B k y := ⟨h.blk.frm F hS, h.ge, h.id, h.kb, h.wf⟩
theorem PlP.own_lt {k : Int} {x : PlM} (h : PlP w B k x) {j : Nat} (hj : x.own j) : B ≤ j ∧ j < w.heap.size := by
  rcases hj with hj | rfl | hj
  · exact h.f.own_lt hj
  · exact ⟨h.q.ge, h.q.blk.lt⟩
  · exact h.q.sl.lt j hj
theorem PlP.not_own {k : Int} {x : PlM} (h : PlP w B k x) {g : Nat} {t : TypeId} {cs : Array Value} (hg : Blk w g t cs)
    (ht : t ≠ 133 ∧ t ≠ 3 ∧ t ≠ 139 ∧ t ≠ 129 ∧ t ≠ 141) : ¬ x.own g := by
  rintro (hj | rfl | hj)
  · rcases h.f.own_kind hj with (rfl | rfl) | ⟨t', cs', hc, e⟩
    · exact h.f.hm.not_cells hg rfl
    · exact h.f.om.not_cells hg rfl
    · rcases e with rfl | rfl | rfl
      · exact hg.apart hc ht.1 rfl
      · exact hg.apart hc ht.2.1 rfl
      · exact hg.apart hc ht.2.2.1 rfl
  · exact hg.apart h.q.blk ht.2.2.2.1 rfl
  · obtain ⟨_, cs', hc⟩ := own_type h.q.sl hj
    exact hg.apart hc ht.2.2.2.2 rfl
theorem PlP.sep {k : Int} {x : PlM} (h : PlP w B k x) {j : Nat} (hj : x.M.own j) : j ≠ x.q ∧ x.v.ownBlock ≠ some j := by
  rcases h.f.own_kind hj with (rfl | rfl) | ⟨t', cs', hc, e⟩
  · exact ⟨h.f.hm.not_cells h.q.blk, fun hv => by obtain ⟨_, cs', hc⟩ := own_type h.q.sl hv; exact h.f.hm.not_cells hc rfl⟩
  · exact ⟨h.f.om.not_cells h.q.blk, fun hv => by obtain ⟨_, cs', hc⟩ := own_type h.q.sl hv; exact h.f.om.not_cells hc rfl⟩
  · refine ⟨?_, fun hv => ?_⟩
    · rcases e with rfl | rfl | rfl <;> exact hc.apart h.q.blk (by decide)
    · obtain ⟨_, cs2, hc2⟩ := own_type h.q.sl hv
      rcases e with rfl | rfl | rfl <;> exact hc.apart hc2 (by decide) rfl
def BoM.own (b : BoM) (j : Nat) : Prop := j = b.b ∨ j = b.fm ∨ j = b.bm ∨ (∃ k x, b.P k = some x ∧ x.own j) ∨ ∃ k y, b.K k = some y ∧ y.p = j
theorem BookP.frm {b : BoM} {S : Nat → Prop} (h : BookP w B b) (F : Frm S w w') (hS : ∀ j, b.own j → ¬ S j) : BookP w' B b :=
  ⟨h.blk.frm F (hS _ (.inl rfl)), h.bb, h.bf, h.bk, h.ne, h.tw, h.nw, h.fmv.frm F (hS _ (.inr (.inl rfl))), h.bmv.frm F (hS _ (.inr (.inr (.inl rfl)))),
    fun k x hx => ⟨(h.pl k x hx).1.frm F (fun j hj => hS j (.inr (.inr (.inr (.inl ⟨k, x, hx, hj⟩))))), (h.pl k x hx).2⟩, h.ap,
    fun k y hy => ⟨(h.bo k y hy).1.frm F (hS _ (.inr (.inr (.inr (.inr ⟨k, y, hy, rfl⟩))))), (h.bo k y hy).2⟩, h.bp, h.few⟩
theorem BookP.fresh {b : BoM} (h : BookP w B b) (F : Fresh w w') : BookP w' B b := h.frm F (fun _ _ f => f)
end
end
section
open Go.RowKit
open QueueM (Wt)
def updP {α : Type} (m : Int → Option α) (k : Int) (x : Option α) : Int → Option α := fun j => if j = k then x else m j
theorem updP_same {α : Type} (m : Int → Option α) (k : Int) (x : Option α) : updP m k x k = x := if_pos rfl
theorem updP_other {α : Type} (m : Int → Option α) {k j : Int} (x : Option α) (h : j ≠ k) : updP m k x j = m j := if_neg h
theorem map_updP {α : Type} (m : Int → Option α) (f : α → Value) (k : Int) (x : Option α) : (fun j => (updP m k x j).map f) = upd (fun j => (m j).map f) k (x.map f) := by
  funext j
  unfold updP upd
  split <;> rfl
theorem upd_id (m : Int → Option Value) (k : Int) (v : Option Value) (h : m k = v) : upd m k v = m := by
  funext j
  unfold upd
  split
  · rename_i e; rw [e, h]
  · rfl
section
variable {w w' : World} {B : Nat} {b : BoM}
theorem BookP.notB (h : BookP w B b) {k : Int} {x : PlM} (hx : b.P k = some x) : ¬ x.own b.b := (h.pl k x hx).1.not_own h.blk (by decide)
theorem BookP.notK (h : BookP w B b) {k : Int} {x : PlM} (hx : b.P k = some x) {i : Int} {y : BkM} (hy : b.K i = some y) : ¬ x.own y.p := (h.pl k x hx).1.not_own (h.bo i y hy).1.blk (by decide)
theorem BookP.place {S : Nat → Prop} (h : BookP w B b) {k : Int} {x : PlM} (hx : b.P k = some x) (F : Frm S w w') (hS : ∀ j, S j → x.own j) (x' : PlM) (hf : x'.M.f = x.M.f) (hq : x'.q = x.q) (hp : PlP w' B k x')
    (ho : ∀ j, x'.own j → x.own j ∨ w.heap.size ≤ j) : BookP w' B { b with P := updP b.P k (some x') } := by
  have hval : some x'.val = b.fv k := by unfold BoM.fv; rw [hx]; unfold PlM.val; rw [hf, hq]; rfl
  have hfv : ({ b with P := updP b.P k (some x') } : BoM).fv = b.fv := by
    unfold BoM.fv
    dsimp only
    rw [map_updP]
    exact upd_id _ _ _ hval.symm
  have hfr : ∀ k1 x1, b.P k1 = some x1 → k1 ≠ k → PlP w' B k1 x1 := fun k1 x1 h1 hne => (h.pl k1 x1 h1).1.frm F (fun j hj hs => h.ap k1 x1 k x h1 hx hne j hj (hS j hs))
  refine ⟨h.blk.frm F (fun s => h.notB hx (hS _ s)), h.bb, h.bf, h.bk, h.ne, h.tw, h.nw, ?_, h.bmv.frm F (fun s => (h.pl k x hx).2.2 (hS _ s)), ?_, ?_, ?_, h.bp, ?_⟩
  · rw [hfv]; exact h.fmv.frm F (fun s => (h.pl k x hx).2.1 (hS _ s))
  · intro k1 x1 h1
    dsimp only at h1
    by_cases e : k1 = k
    · subst e
      rw [updP_same] at h1
      injection h1 with h1
      subst h1
      refine ⟨hp, fun ho1 => ?_, fun ho1 => ?_⟩
      · rcases ho _ ho1 with h2 | h2
        · exact (h.pl k1 x hx).2.1 h2
        · have := h.fmv.lt; dsimp only at h2; omega
      · rcases ho _ ho1 with h2 | h2
        · exact (h.pl k1 x hx).2.2 h2
        · have := h.bmv.lt; dsimp only at h2; omega
    · rw [updP_other _ _ e] at h1
      exact ⟨hfr k1 x1 h1 e, (h.pl k1 x1 h1).2⟩
  · intro k1 x1 k2 x2 h1 h2 hne j hj hj2
    dsimp only at h1 h2
    by_cases e1 : k1 = k
    · subst e1
      rw [updP_same] at h1
      injection h1 with h1
      subst h1
      rw [updP_other _ _ (fun e => hne e.symm)] at h2
      rcases ho j hj with h3 | h3
      · exact h.ap k1 x k2 x2 hx h2 hne j h3 hj2
      · have := ((h.pl k2 x2 h2).1.own_lt hj2).2; omega
    · rw [updP_other _ _ e1] at h1
      by_cases e2 : k2 = k
      · subst e2
        rw [updP_same] at h2
        injection h2 with h2
        subst h2
        rcases ho j hj2 with h3 | h3
        · exact h.ap k1 x1 k2 x h1 hx hne j hj h3
        · have := ((h.pl k1 x1 h1).1.own_lt hj).2; omega
      · rw [updP_other _ _ e2] at h2
        exact h.ap k1 x1 k2 x2 h1 h2 hne j hj hj2
  · intro i y hy
    obtain ⟨a1, a2, a3⟩ := h.bo i y hy
    refine ⟨a1.frm F (fun s => h.notK hx hy (hS _ s)), a2, ?_⟩
    dsimp only
    by_cases e : y.fl = k
    · rw [e, updP_same]; exact ⟨x', rfl⟩
    · rw [updP_other _ _ e]; exact a3
  · obtain ⟨ks, k1, k2⟩ := h.few
    refine ⟨ks, k1, fun j hj => ?_⟩
    dsimp only at hj
    by_cases e : j = k
    · exact e ▸ k2 k (by rw [hx]; rfl)
    · rw [updP_other _ _ e] at hj; exact k2 j hj
theorem BookP.booking (h : BookP w B b) {k : Int} {y : BkM} (hy : b.K k = some y) (F : Frm (fun j => j = y.p) w w') (y' : BkM) (hp : y'.p = y.p) (hfl : y'.fl = y.fl) (hb : BkP w' B k y') : BookP w' B { b with K := updP b.K k (some y') } := by
  have hb1 := (h.bo k y hy).1
  have hkv : ({ b with K := updP b.K k (some y') } : BoM).kv = b.kv := by
    unfold BoM.kv
    dsimp only
    rw [map_updP]
    refine upd_id _ _ _ ?_
    rw [hy]
    unfold BkM.ptr
    rw [Option.map_some, Option.map_some, hp]
  refine ⟨h.blk.frm F (fun s => h.blk.apart hb1.blk (by decide) s), h.bb, h.bf, h.bk, h.ne, h.tw, h.nw, h.fmv.frm F (fun s => h.fmv.not_cells hb1.blk s), ?_, ?_, h.ap, ?_, ?_, h.few⟩
  · rw [hkv]; exact h.bmv.frm F (fun s => h.bmv.not_cells hb1.blk s)
  · intro k1 x1 h1
    exact ⟨(h.pl k1 x1 h1).1.frm F (fun j hj s => h.notK h1 hy (by subst s; exact hj)), (h.pl k1 x1 h1).2⟩
  · intro i z hz
    dsimp only at hz
    by_cases e : i = k
    · subst e
      rw [updP_same] at hz
      injection hz with hz
      subst hz
      exact ⟨hb, (h.bo i y hy).2.1, by dsimp only; rw [hfl]; exact (h.bo i y hy).2.2⟩
    · rw [updP_other _ _ e] at hz
      exact ⟨(h.bo i z hz).1.frm F (h.bp i z k y hz hy e), (h.bo i z hz).2⟩
  · intro i z i' z' hz hz' hne
    dsimp only at hz hz'
    by_cases e : i = k
    · subst e
      rw [updP_same] at hz
      injection hz with hz
      subst hz
      rw [updP_other _ _ (fun e => hne e.symm)] at hz'
      rw [hp]
      exact h.bp i y i' z' hy hz' hne
    · rw [updP_other _ _ e] at hz
      by_cases e' : i' = k
      · subst e'
        rw [updP_same] at hz'
        injection hz' with hz'
        subst hz'
        rw [hp]
        exact h.bp i z i' y hz hy hne
      · rw [updP_other _ _ e'] at hz'
        exact h.bp i z i' z' hz hz' hne
theorem BookP.delK (h : BookP w B b) (k : Int) (hm : MapV w' b.bm (upd b.kv k none)) (F : Frm (fun j => j = b.bm) w w') :
    BookP w' B { b with K := updP b.K k none } := by
  have hkv : ({ b with K := updP b.K k none } : BoM).kv = upd b.kv k none := by
    unfold BoM.kv
    dsimp only
    rw [map_updP]
    rfl
  have hsome : ∀ i z, updP b.K k none i = some z → b.K i = some z := fun i z hz => by
    unfold updP at hz
    split at hz
    · cases hz
    · exact hz
  refine ⟨h.blk.frm F (fun s => h.bmv.not_cells h.blk s.symm), h.bb, h.bf, h.bk, h.ne, h.tw, h.nw, h.fmv.frm F h.ne, by rw [hkv]; exact hm, ?_, h.ap, ?_, ?_, h.few⟩
  · intro k1 x1 h1
    exact ⟨(h.pl k1 x1 h1).1.frm F (fun j hj s => (h.pl k1 x1 h1).2.2 (by subst s; exact hj)), (h.pl k1 x1 h1).2⟩
  · intro i z hz
    have hz := hsome i z hz
    exact ⟨(h.bo i z hz).1.frm F (fun s => h.bmv.not_cells (h.bo i z hz).1.blk s.symm), (h.bo i z hz).2⟩
  · intro i z i' z' hz hz' hne
    exact h.bp i z i' z' (hsome i z hz) (hsome i' z' hz') hne
theorem BookP.setT (h : BookP w B b) {t : Int} (ht : 0 ≤ t ∧ t ≤ 1099511627776) : BookP (w.setCell ⟨b.b, 0, none⟩ (.int .i64 t)) B { b with tm := t } ∧ Frm (fun j => j = b.b) w (w.setCell ⟨b.b, 0, none⟩ (.int .i64 t)) := by
  have F : Frm (fun j => j = b.b) w (w.setCell ⟨b.b, 0, none⟩ (.int .i64 t)) := (Frm.refl (fun j => j = b.b) w).setCell (p := ⟨b.b, 0, none⟩) (fun _ => rfl) _
  refine ⟨⟨h.blk.set 0 _, h.bb, h.bf, h.bk, h.ne, ht, h.nw, h.fmv.frm F (h.fmv.not_cells h.blk), h.bmv.frm F (h.bmv.not_cells h.blk), ?_, h.ap, ?_, h.bp, h.few⟩, F⟩
  · exact fun k x hx => ⟨(h.pl k x hx).1.frm F (fun j hj s => h.notB hx (by subst s; exact hj)), (h.pl k x hx).2⟩
  · exact fun i y hy => ⟨(h.bo i y hy).1.frm F ((h.bo i y hy).1.blk.apart h.blk (by decide)), (h.bo i y hy).2⟩
end
end
section
open Go.RowKit
open QueueM (Wt)
section
variable {w w' : World} {B : Nat} {b : BoM}
theorem BookP.queueStep (h : BookP w B b) {k : Int} {x : PlM} (hx : b.P k = some x) {l : List Wt} (hs : StepQ w B x.q x.v l w') (hg : QueueM.Good l) (hwd : Words l) :
    ∃ x' : PlM, x'.ws = l ∧ x'.M = x.M ∧ x'.q = x.q ∧ BookP w' B { b with P := updP b.P k (some x') } ∧ Frm x.own w w' ∧ ∀ j, x'.own j → x.own j ∨ w.heap.size ≤ j := by
  obtain ⟨v', hq, F, hv⟩ := hs
  have hp := (h.pl k x hx).1
  have F' : Frm x.own w w' := F.mono (fun i _ e => .inr e)
  have ho : ∀ j, ({ x with v := v', ws := l } : PlM).own j → x.own j ∨ w.heap.size ≤ j := fun j hj => by
    rcases hj with hj | hj | hj
    · exact .inl (.inl hj)
    · exact .inl (.inr (.inl hj))
    · dsimp only at hj
      rcases hv with hv | ⟨i, hv, hi⟩
      · exact .inl (.inr (.inr (by rw [← hv]; exact hj)))
      · rw [hv] at hj
        injection hj with hj
        exact .inr (by omega)
  refine ⟨{ x with v := v', ws := l }, rfl, rfl, rfl, h.place hx F (fun j hj => .inr hj) _ rfl rfl ⟨hp.kb, hp.f.frm F (fun j hj e => ?_), hq, hg, hwd⟩ ho, F', ho⟩
  rcases e with e | e
  · exact (hp.sep hj).1 e
  · exact (hp.sep hj).2 e
theorem BookP.flightStep (h : BookP w B b) {k : Int} {x : PlM} (hx : b.P k = some x) (hs : StepP w B x.M w') :
    ∃ x' : PlM, x'.ws = x.ws ∧ x'.q = x.q ∧ x'.M.f = x.M.f ∧ BookP w' B { b with P := updP b.P k (some x') } ∧ Frm x.own w w' ∧ ∀ j, x'.own j → x.own j ∨ w.heap.size ≤ j := by
  obtain ⟨M', hf, e1, _, _, F, ho⟩ := hs
  have hp := (h.pl k x hx).1
  have F' : Frm x.own w w' := F.mono (fun i _ e => .inl e)
  have ho' : ∀ j, ({ x with M := M' } : PlM).own j → x.own j ∨ w.heap.size ≤ j := fun j hj => by
    rcases hj with hj | hj
    · rcases ho j hj with h1 | h1
      · exact .inl (.inl h1)
      · exact .inr h1
    · exact .inl (.inr hj)
  refine ⟨{ x with M := M' }, rfl, rfl, e1, h.place hx F' (fun j hj => hj) _ e1 rfl ⟨hp.kb, hf, isQ_frm hp.q F (fun hj => ?_) (fun j hj hj2 => ?_), hp.g, hp.wd⟩ ho', F', ho'⟩
  · exact (hp.sep hj).1 rfl
  · exact (hp.sep hj2).2 hj
end
end
section
open Go.RowKit
open QueueM (Wt)
structure BStep (w : World) (B : Nat) (b : BoM) (w' : World) (b' : BoM) : Prop where
  bk : BookP w' B b'
  e1 : b'.b = b.b
  e2 : b'.fm = b.fm
  e3 : b'.bm = b.bm
  fr : Frm b.own w w'
  ow : ∀ j, b'.own j → b.own j ∨ w.heap.size ≤ j
section
variable {w w' w2 : World} {B : Nat} {b b' b2 : BoM}
theorem BStep.refl (h : BookP w B b) (F : Fresh w w') : BStep w B b w' b := ⟨h.fresh F, rfl, rfl, rfl, F.frm, fun j hj => .inl hj⟩
theorem BStep.trans (h : BStep w B b w' b') (k : BStep w' B b' w2 b2) : BStep w B b w2 b2 :=
  ⟨k.bk, k.e1.trans h.e1, k.e2.trans h.e2, k.e3.trans h.e3, h.fr.trans' k.fr (fun i hi hj => by
    rcases h.ow i hj with h1 | h1
    · exact h1
    · omega), fun j hj => by
    rcases k.ow j hj with h1 | h1
    · exact h.ow j h1
    · exact .inr (Nat.le_trans h.fr.size h1)⟩
theorem BStep.fresh (h : BStep w B b w' b') (F : Fresh w' w2) : BStep w B b w2 b' := h.trans (BStep.refl h.bk F)
theorem own_updP {x' : PlM} {k : Int} {j : Nat} (hj : ({ b with P := updP b.P k (some x') } : BoM).own j) : b.own j ∨ x'.own j := by
  rcases hj with e | e | e | ⟨i, z, hz, hj⟩ | e
  · exact .inl (.inl e)
  · exact .inl (.inr (.inl e))
  · exact .inl (.inr (.inr (.inl e)))
  · dsimp only at hz
    by_cases e : i = k
    · subst e
      rw [updP_same] at hz
      injection hz with hz
      subst hz
      exact .inr hj
    · rw [updP_other _ _ e] at hz
      exact .inl (.inr (.inr (.inr (.inl ⟨i, z, hz, hj⟩))))
  · exact .inl (.inr (.inr (.inr (.inr e))))
theorem own_place {k : Int} {x : PlM} (hx : b.P k = some x) {j : Nat} (hj : x.own j) : b.own j := .inr (.inr (.inr (.inl ⟨k, x, hx, hj⟩)))
theorem BStep.queue (h : BookP w B b) {k : Int} {x : PlM} (hx : b.P k = some x) {l : List Wt} (hs : StepQ w B x.q x.v l w') (hg : QueueM.Good l) (hwd : Words l) :
    ∃ x' : PlM, x'.ws = l ∧ x'.M = x.M ∧ x'.q = x.q ∧ BStep w B b w' { b with P := updP b.P k (some x') } := by
  obtain ⟨x', a1, a2, a3, a4, a5, a6⟩ := h.queueStep hx hs hg hwd
  refine ⟨x', a1, a2, a3, a4, rfl, rfl, rfl, a5.mono (fun j _ hj => own_place hx hj), fun j hj => ?_⟩
  rcases own_updP hj with h1 | h1
  · exact .inl h1
  · exact (a6 j h1).imp (own_place hx) id
theorem BStep.flight (h : BookP w B b) {k : Int} {x : PlM} (hx : b.P k = some x) (hs : StepP w B x.M w') :
    ∃ x' : PlM, x'.ws = x.ws ∧ x'.q = x.q ∧ x'.M.f = x.M.f ∧ BStep w B b w' { b with P := updP b.P k (some x') } := by
  obtain ⟨x', a1, a2, a3, a4, a5, a6⟩ := h.flightStep hx hs
  refine ⟨x', a1, a2, a3, a4, rfl, rfl, rfl, a5.mono (fun j _ hj => own_place hx hj), fun j hj => ?_⟩
  rcases own_updP hj with h1 | h1
  · exact .inl h1
  · exact (a6 j h1).imp (own_place hx) id
theorem BStep.booking (h : BookP w B b) {k : Int} {y : BkM} (hy : b.K k = some y) (F : Frm (fun j => j = y.p) w w') (y' : BkM) (hp : y'.p = y.p) (hfl : y'.fl = y.fl) (hb : BkP w' B k y') :
    BStep w B b w' { b with K := updP b.K k (some y') } := by
  refine ⟨h.booking hy F y' hp hfl hb, rfl, rfl, rfl, F.mono (fun j _ e => .inr (.inr (.inr (.inr ⟨k, y, hy, e.symm⟩)))), fun j hj => .inl ?_⟩
  rcases hj with e | e | e | e | ⟨i, z, hz, e⟩
  · exact .inl e
  · exact .inr (.inl e)
  · exact .inr (.inr (.inl e))
  · exact .inr (.inr (.inr (.inl e)))
  · dsimp only at hz
    by_cases ei : i = k
    · subst ei
      rw [updP_same] at hz
      injection hz with hz
      subst hz
      exact .inr (.inr (.inr (.inr ⟨i, y, hy, by rw [← hp]; exact e⟩)))
    · rw [updP_other _ _ ei] at hz
      exact .inr (.inr (.inr (.inr ⟨i, z, hz, e⟩)))
end
end
section
open Go.RowKit
open QueueM (Wt)
theorem Blk.there {w : World} {q : Nat} {t : TypeId} {cs : Array Value} (h : Blk w q t cs) {n : Nat} (hn : n = cs.size) : w.there q 0 n := fun i hi => ⟨h.has (by omega), h.frozen _⟩
theorem fval_of (o : Option Wt) : ∃ (x : Wt) (fb : Bool), fval o = .tuple #[wagg x, .bool fb] ∧ ((o = none ∧ fb = false) ∨ (o = some x ∧ fb = true)) := by
  cases o with
  | none => exact ⟨⟨0, 0, 0, 0, 0⟩, false, rfl, .inl ⟨rfl, rfl⟩⟩
  | some x => exact ⟨x, true, rfl, .inr ⟨rfl, rfl⟩⟩
theorem BookP.not_own {w : World} {B : Nat} {b : BoM} (h : BookP w B b) {g : Nat} {t : TypeId} {cs : Array Value} (hg : Blk w g t cs)
    (ht : t ≠ 133 ∧ t ≠ 3 ∧ t ≠ 139 ∧ t ≠ 129 ∧ t ≠ 141) (h2 : t ≠ 45 ∧ t ≠ 84) : ¬ b.own g := by
  rintro (e | e | e | ⟨k, x, hx, hj⟩ | ⟨k, y, hy, e⟩)
  · exact hg.apart h.blk h2.1 e
  · exact h.fmv.not_cells hg e.symm
  · exact h.bmv.not_cells hg e.symm
  · exact (h.pl k x hx).1.not_own hg ht hj
  · exact hg.apart (h.bo k y hy).1.blk h2.2 e.symm
structure PromM (w : World) (B : Nat) (b : BoM) (k : Int) (x : PlM) (K : Int → Option BkM) (l : List Wt) (wr : World) (b' : BoM) (x' : PlM) : Prop where
  st : BStep w B b wr b'
  pk : b'.P k = some x'
  f : x'.M.f = x.M.f
  q : x'.q = x.q
  ws : x'.ws = l
  ot : ∀ j, j ≠ k → b'.P j = b.P j
  tm : b'.tm = b.tm
  nx : b'.nx = b.nx
  K : b'.K = K
section
variable {w wr w1 : World} {B : Nat} {b b' : BoM} {k : Int} {x x' : PlM} {K : Int → Option BkM} {l : List Wt}
theorem PromM.refl (h : BookP w B b) (F : Fresh w wr) (hx : b.P k = some x) : PromM w B b k x b.K x.ws wr b x :=
  ⟨BStep.refl h F, hx, rfl, rfl, rfl, fun _ _ => rfl, rfl, rfl, rfl⟩
theorem PromM.fresh (h : PromM w B b k x K l wr b' x') (F : Fresh wr w1) : PromM w B b k x K l w1 b' x' :=
  ⟨h.st.fresh F, h.pk, h.f, h.q, h.ws, h.ot, h.tm, h.nx, h.K⟩
theorem PromM.pl (h : PromM w B b k x K l wr b' x') : PlP wr B k x' := (h.st.bk.pl k x' h.pk).1
theorem PromM.queue (h : PromM w B b k x K l wr b' x') {m : List Wt} (hs : StepQ wr B x'.q x'.v m w1) (hg : QueueM.Good m) (hwd : Words m) : ∃ b1 x1, PromM w B b k x K m w1 b1 x1 ∧ Frm b'.own wr w1 := by
  obtain ⟨x1, a1, a2, a3, a4⟩ := BStep.queue h.st.bk h.pk hs hg hwd
  exact ⟨_, x1, ⟨h.st.trans a4, updP_same _ _ _, by rw [a2]; exact h.f, a3.trans h.q, a1, fun j hj => (updP_other _ _ hj).trans (h.ot j hj), h.tm, h.nx, h.K⟩, a4.fr⟩
theorem PromM.flight (h : PromM w B b k x K l wr b' x') (hs : StepP wr B x'.M w1) : ∃ b1 x1, PromM w B b k x K l w1 b1 x1 ∧ Frm b'.own wr w1 := by
  obtain ⟨x1, a1, a2, a3, a4⟩ := BStep.flight h.st.bk h.pk hs
  exact ⟨_, x1, ⟨h.st.trans a4, updP_same _ _ _, a3.trans h.f, a2.trans h.q, a1.trans h.ws, fun j hj => (updP_other _ _ hj).trans (h.ot j hj), h.tm, h.nx, h.K⟩, a4.fr⟩
theorem PromM.booked (h : PromM w B b k x K l wr b' x') {i : Int} {y : BkM} (hy : K i = some y) :
    PromM w B b k x (updP K i (some { y with st := 2 })) l (wr.setCell ⟨y.p, 4, none⟩ (.int .i64 2)) { b' with K := updP K i (some { y with st := 2 }) } x' := by
  have hy' : b'.K i = some y := by rw [h.K]; exact hy
  have hb := (h.st.bk.bo i y hy').1
  have F : Frm (fun j => j = y.p) wr (wr.setCell ⟨y.p, 4, none⟩ (.int .i64 2)) := (Frm.refl (fun j => j = y.p) wr).setCell (p := ⟨y.p, 4, none⟩) (fun _ => rfl) _
  have hs := BStep.booking h.st.bk hy' F { y with st := 2 } rfl rfl ⟨hb.blk.set 4 _, hb.ge, hb.id, hb.kb, ⟨hb.wf.1, hb.wf.2.1, hb.wf.2.2.1, ⟨by show (-9223372036854775808 : Int) ≤ 2; decide, by show (2 : Int) ≤ 9223372036854775807; decide⟩, hb.wf.2.2.2.2⟩⟩
  rw [h.K] at hs
  exact ⟨h.st.trans hs, h.pk, h.f, h.q, h.ws, h.ot, h.tm, h.nx, rfl⟩
theorem PromM.who (h : PromM w B b k x K l wr b' x') (hw : b'.wt) {u : Wt} (hu : u ∈ l) : ∃ y, K u.id = some y ∧ y.fl = k ∧ y.st = 3 := by
  rw [← h.K]
  exact hw k x' h.pk u (by rw [h.ws]; exact hu)
theorem PromM.wt (h : PromM w B b k x K l wr b' x') (hw : b'.wt) (hg : QueueM.Good l) {u : Wt} (hu : u ∈ l) {y : BkM} (hy : K u.id = some y) {w2 : World} {b2 : BoM} {x2 : PlM} (h2 : PromM w B b k x (updP K u.id (some { y with st := 2 })) (QueueM.del u.id l) w2 b2 x2) : b2.wt := by
  intro j z hz v hv
  rw [h2.K]
  have hne : v.id ≠ u.id ∧ ∃ y, b'.K v.id = some y ∧ y.fl = j ∧ y.st = 3 := by
    by_cases e : j = k
    · subst e
      have : z = x2 := by rw [h2.pk] at hz; injection hz with hz; exact hz.symm
      subst this
      rw [h2.ws] at hv
      refine ⟨fun e => ?_, hw j x' h.pk v (by rw [h.ws]; exact (QueueM.del_sub _ _).subset hv)⟩
      have hn := hg.once
      obtain ⟨s, t, e2⟩ := List.append_of_mem hu
      have hs : ∀ y ∈ s, y.id ≠ u.id := fun y hy he => by
        rw [e2, List.map_append, List.map_cons] at hn
        exact (List.nodup_append.1 hn).2.2 y.id (List.mem_map.2 ⟨y, hy, rfl⟩) u.id (List.mem_cons_self ..) he
      rw [e2, QueueM.del_split s t u hs] at hv
      rw [e2, List.map_append, List.map_cons] at hn
      rcases List.mem_append.1 hv with hv | hv
      · exact hs v hv e
      · exact (List.nodup_cons.1 (List.nodup_append.1 hn).2.1).1 (List.mem_map.2 ⟨v, hv, e⟩)
    · rw [h2.ot j e] at hz
      have hz' : b'.P j = some z := by rw [h.ot j e]; exact hz
      obtain ⟨y', a1, a2, a3⟩ := hw j z hz' v hv
      refine ⟨fun e' => ?_, y', a1, a2, a3⟩
      rw [e'] at a1
      obtain ⟨y3, c1, c2, _⟩ := h.who hw hu
      rw [← h.K, a1] at c1
      injection c1 with c1
      subst c1
      exact e (a2.symm.trans c2)
  obtain ⟨h3, y', a1, a2, a3⟩ := hne
  exact ⟨y', by rw [updP_other _ _ h3, ← h.K]; exact a1, a2, a3⟩
end
def PromPost (w : World) (B : Nat) (b : BoM) (k : Int) (x : PlM) (w' : World) : Prop :=
  ∃ (b' : BoM) (x' : PlM), BStep w B b w' b' ∧ b'.wt ∧ b'.P k = some x' ∧ QueueM.Fair x.ws x'.ws ∧ (∀ j, j ≠ k → b'.P j = b.P j) ∧ b'.tm = b.tm ∧ b'.nx = b.nx ∧ ∀ i, (b'.K i).map BkM.p = (b.K i).map BkM.p
structure PromI (w : World) (B : Nat) (b : BoM) (k : Int) (x : PlM) (n : Nat) (wr : World) (b' : BoM) (x' : PlM) : Prop where
  m : PromM w B b k x b'.K x'.ws wr b' x'
  wt : b'.wt
  fair : QueueM.Fair x.ws x'.ws
  sm : ∀ i, (b'.K i).map BkM.p = (b.K i).map BkM.p
  box : Blk wr n 75 #[.pointer (some ⟨x.M.f, 0, none⟩), .pointer (some ⟨x.q, 0, none⟩)]
def WtAt (wr : World) (ws : List Wt) (v5 v6 : Value) : Prop :=
  ∃ (u : Wt) (fb : Bool) (zs : List Int) (c : Nat), v5 = .pointer (some ⟨c, 0, none⟩) ∧ v6 = .bool fb ∧ ((QueueM.first zs ws = none ∧ fb = false) ∨ (QueueM.first zs ws = some u ∧ fb = true)) ∧ Blk wr c 69 #[.int .i64 u.id, .int .i64 u.cls, .int .i64 u.many, .int .i64 u.time, .float .f64 u.score]
def FirstP (w : World) (zs : List Int) (ws : List Wt) (e : Ending) (w' : World) : Prop :=
  ∃ (vi vc vm vt : Int) (vs : Nat) (fb : Bool), e = .returned (.tuple #[.agg #[.int .i64 vi, .int .i64 vc, .int .i64 vm, .int .i64 vt, .float .f64 vs], .bool fb]) ∧ ((QueueM.first zs ws = none ∧ fb = false) ∨ (QueueM.first zs ws = some ⟨vi, vc, vm, vt, vs⟩ ∧ fb = true)) ∧ Fresh w w'
theorem firstP (w : World) (B b : Nat) (v : Value) (l : List Wt) (A : Option Addr) (cap : Nat) (zs : List Int) (h : IsQ w B b v l) (hg : QueueM.Good l) (hA : Rd w w.heap.size A (zs.map (Value.int .i64))) (hz : zs.length ≤ 8) :
    Calls Tryz.prog 62 #[.pointer (some ⟨b, 0, none⟩), .slice A zs.length cap] w fun e w' => FirstP w zs l e w' := by
  refine (first_any w B b v l A cap zs h (by have := hg.few; omega) hg.right hA (by omega)).mono ?_
  rintro e w' ⟨rfl, F⟩
  obtain ⟨⟨vi, vc, vm, vt, vs⟩, fb, hv, hc⟩ := fval_of (QueueM.first zs l)
  exact ⟨vi, vc, vm, vt, vs, fb, by rw [hv]; rfl, hc, F⟩
def qLen (w : World) (q : Nat) : Nat := match w.cell? ⟨q, 0, none⟩ with
  | some (.slice _ n _) => n
  | _ => 0
theorem qLen_of {w : World} {B q : Nat} {v : Value} {ws : List Wt} (h : IsQ w B q v ws) : qLen w q = ws.length := by
  have hc : w.cell? ⟨q, 0, none⟩ = some v := h.blk.cell 0
  obtain ⟨A, c, rfl, _⟩ := h.sl.shape
  unfold qLen
  rw [hc]
theorem PromI.post {w wr : World} {B : Nat} {b b' : BoM} {k : Int} {x x' : PlM} {n : Nat} (h : PromI w B b k x n wr b' x') : PromPost w B b k x wr :=
  ⟨b', x', h.m.st, h.wt, h.m.pk, h.fair, h.m.ot, h.m.tm, h.m.nx, h.sm⟩
theorem PromI.fresh {w wr w1 : World} {B : Nat} {b b' : BoM} {k : Int} {x x' : PlM} {n : Nat} (h : PromI w B b k x n wr b' x') (F : Fresh wr w1) : PromI w B b k x n w1 b' x' :=
  ⟨h.m.fresh F, h.wt, h.fair, h.sm, h.box.frm F (fun f => f)⟩
end
section
open Go.RowKit
theorem BoM.fv_none {b : BoM} {k : Int} (h : b.P k = none) : b.fv k = none := by unfold BoM.fv; rw [h]; rfl
theorem BoM.fv_some {b : BoM} {k : Int} {x : PlM} (h : b.P k = some x) : b.fv k = some x.val := by unfold BoM.fv; rw [h]; rfl
theorem BoM.kv_none {b : BoM} {k : Int} (h : b.K k = none) : b.kv k = none := by unfold BoM.kv; rw [h]; rfl
theorem BoM.kv_some {b : BoM} {k : Int} {y : BkM} (h : b.K k = some y) : b.kv k = some y.ptr := by unfold BoM.kv; rw [h]; rfl
structure RepZ (zs : List Value) : Prop where
  len : zs.length = 9
  one : zs.toArray.all (·.oneCell') = true
theorem rep9 : (Tryz.prog.info? 29).map (·.size) = some 9 := by kernel_rfl
theorem RepZ.info {zs : List Value} (h : RepZ zs) : (Tryz.prog.info? 29).map (·.size) = some zs.toArray.size := by
  have h9 : zs.toArray.size = 9 := h.len
  rw [h9]
  exact rep9
theorem rep_ret {fn : Func} {p : Tmp} (h : fn.results = #[.cell p 29]) {tmps : Array Value} {W : World} {g : Nat} {zs : List Value} (hp : tmps.getD p undef = .pointer (some ⟨g, 0, none⟩)) (hb : Blk W g 29 zs.toArray) (hz : RepZ zs) :
    (results fn tmps).run Tryz.prog W = .ok (.agg zs.toArray) W :=
  results_cell_row h tmps W g _ zs.toArray _ _ hp hb Tryz.underlying29 rfl hz.info
def RepPost (w : World) (e : Ending) (w' : World) : Prop := ∃ zs : List Value, RepZ zs ∧ e = .returned (.agg zs.toArray) ∧ Fresh w w'
theorem rep_done {fn : Func} {p : Tmp} (h : fn.results = #[.cell p 29]) {tmps : Array Value} {W : World} {g : Nat} {zs : List Value} (hp : tmps.getD p undef = .pointer (some ⟨g, 0, none⟩)) (hb : Blk W g 29 zs.toArray) (hz : RepZ zs) {R : Ending → World → Prop} (hR : R (.returned (.agg zs.toArray)) W) :
    bodyPost Tryz.prog fn R .ret ⟨tmps, []⟩ W := bodyPost_ret (rep_ret h hp hb hz) rfl hR
def AtPost (w : World) (b : BoM) (k : Int) (e : Ending) (w' : World) : Prop :=
  Fresh w w' ∧ ((∃ x, b.P k = some x ∧ e = .returned (.agg #[.pointer (some ⟨x.M.f, 0, none⟩), .pointer (some ⟨x.q, 0, none⟩)])) ∨ (b.P k = none ∧ e = .panicked (errT 2)))
theorem at_any (w : World) (B : Nat) (b : BoM) (h : BookP w B b) (k : Int) (hk : wf64 k) :
    Calls Tryz.prog 25 #[.pointer (some ⟨b.b, 0, none⟩), .int .i64 k] w fun e w' => AtPost w b k e w' := by
  obtain ⟨W, hW⟩ : ∃ W, w.alloc (.cells #[.pointer none, .pointer none] 75) = W := ⟨_, rfl⟩
  have HF : Hid (Fresh w W) := zh (by rw [← hW]; exact (Frm.refl _ w).alloc _)
  have HB : Hid (Blk W w.heap.size 75 #[.pointer none, .pointer none]) := zh (by rw [← hW]; exact Blk.new _ _ _)
  have hask := (h.fresh HF.out).fmv.ask (t := 42) Tryz.underlying42 (z := .agg #[.pointer none, .pointer none]) (fun _ => by kernel_rfl) (k := k) hk
  have y2 : W.cell? ⟨b.b, 2, none⟩ = some (.map (some b.fm)) := (h.fresh HF.out).blk.cell 2
  cases hx : b.P k with
  | none =>
    rw [BoM.fv_none hx] at hask
    dsimp only [Option.getD, Option.isSome] at hask
    have HN := zh hx
    clear hx h
    go_in
    go_upto_region 1 with fail
    try rw [hW]
    clear hW
    go_wp2_with fail
    refine (need_no 2 _).mono ?_
    rintro e w3 ⟨rfl, rfl⟩
    exact ⟨rfl, HF.out.alloc _, .inr ⟨HN.out, rfl⟩⟩
  | some x =>
    rw [BoM.fv_some hx] at hask
    dsimp only [Option.getD, Option.isSome, PlM.val] at hask
    have HN := zh hx
    clear hx h
    go_in
    go_upto_region 1 with fail
    try rw [hW]
    clear hW
    go_wp2_with fail
    refine (need_yes 2 _).mono ?_
    rintro e w3 ⟨rfl, rfl⟩
    have HB2 : Hid (Blk (W.alloc (.cells #[.pointer (some ⟨x.M.f, 0, none⟩), .pointer (some ⟨x.q, 0, none⟩)] 75)) w.heap.size 75 #[.pointer none, .pointer none]) := zh (HB.out.alloc _)
    have HB3 := zh (blk_setAll HB2.out (vs := [.pointer (some ⟨x.M.f, 0, none⟩), .pointer (some ⟨x.q, 0, none⟩)]) rfl)
    have HF3 : Hid (Fresh w ((W.alloc (.cells #[.pointer (some ⟨x.M.f, 0, none⟩), .pointer (some ⟨x.q, 0, none⟩)] 75)).setCells w.heap.size 0 [.pointer (some ⟨x.M.f, 0, none⟩), .pointer (some ⟨x.q, 0, none⟩)])) := zh ((HF.out.alloc _).trans' (frm_setCells _ _ 0 _) (fun k hk e => by omega))
    go_wp2_with (refine wpList_store_mid rfl 75 (.tmp 4) (.tmp 18) rfl w.heap.size 0 #[.pointer (some ⟨x.M.f, 0, none⟩), .pointer (some ⟨x.q, 0, none⟩)] rfl rfl (HB2.out.there rfl) (by kernel_rfl) (by kernel_rfl) ?_)
    exact bodyPost_ret (v := .agg #[.pointer (some ⟨x.M.f, 0, none⟩), .pointer (some ⟨x.q, 0, none⟩)]) (results_cell_row rfl _ _ w.heap.size _ #[.pointer (some ⟨x.M.f, 0, none⟩), .pointer (some ⟨x.q, 0, none⟩)] _ _ rfl HB3.out Tryz.underlying75 rfl (by kernel_rfl)) rfl ⟨HF3.out, .inl ⟨x, HN.out, rfl⟩⟩
def NamedPost (w : World) (b : BoM) (e : Ending) (w' : World) : Prop :=
  Fresh w w' ∧ ((∃ k y, b.K k = some y ∧ e = .returned (.pointer (some ⟨y.p, 0, none⟩))) ∨ ∃ k, e = .panicked (errT k))
theorem named_any (w : World) (B : Nat) (b : BoM) (h : BookP w B b) (s : ByteArray) (hs : s.size ≤ 1000) :
    Calls Tryz.prog 16 #[.pointer (some ⟨b.b, 0, none⟩), .string s] w fun e w' => NamedPost w b e w' := by
  have HH := zh h
  have HR := zh (readP_any w s hs)
  clear h
  go_in
  go_wp2_with fail
  refine HR.out.mono ?_
  rintro e w2 ⟨n, c, n1, n2, c1, c2, rfl, f2⟩
  have HF := zh f2
  clear f2 HR
  by_cases hc : c = 0
  · subst hc
    have hask := (HH.out.fresh HF.out).bmv.ask (t := 43) Tryz.underlying43 (z := .pointer none) (fun _ => by kernel_rfl) (k := n) ⟨by omega, by omega⟩
    have y3 : w2.cell? ⟨b.b, 3, none⟩ = some (.map (some b.bm)) := (HH.out.fresh HF.out).blk.cell 3
    cases hx : b.K n with
    | none =>
      rw [BoM.kv_none hx] at hask
      dsimp only [Option.getD, Option.isSome] at hask
      clear hx
      go_wp2_with fail
      refine (must_yes _).mono ?_
      rintro e w3 ⟨rfl, rfl⟩
      go_wp2_with fail
      refine (need_no 2 _).mono ?_
      rintro e w3 ⟨rfl, rfl⟩
      exact ⟨rfl, HF.out, .inr ⟨2, rfl⟩⟩
    | some y =>
      rw [BoM.kv_some hx] at hask
      dsimp only [Option.getD, Option.isSome, BkM.ptr] at hask
      have HX := zh hx
      clear hx
      go_wp2_with fail
      refine (must_yes _).mono ?_
      rintro e w3 ⟨rfl, rfl⟩
      go_wp2_with fail
      refine (need_yes 2 _).mono ?_
      rintro e w3 ⟨rfl, rfl⟩
      go_wp2_with fail
      go_ret
      exact ⟨HF.out, .inl ⟨n, y, HX.out, rfl⟩⟩
  · go_wp2_with fail
    refine (must_no c hc _).mono ?_
    rintro e w3 ⟨rfl, rfl⟩
    exact ⟨rfl, HF.out, .inr ⟨c, rfl⟩⟩
theorem told_any (w : World) (B : Nat) (b : BoM) (h : BookP w B b) (k : Int) (y : BkM) (hy : b.K k = some y) :
    Calls Tryz.prog 29 #[.pointer (some ⟨b.b, 0, none⟩), .pointer (some ⟨y.p, 0, none⟩)] w fun e w' => RepPost w e w' := by
  obtain ⟨hb, hlt, x, hx⟩ := h.bo k y hy
  have hp := (h.pl _ x hx).1
  obtain ⟨W, hW⟩ : ∃ W, w.alloc (.cells (replyC 0) 29) = W := ⟨_, rfl⟩
  have HFW : Hid (Fresh w W) := zh (by rw [← hW]; exact (Frm.refl _ w).alloc _)
  have HS1 : Hid (∀ w', Fresh W w' → w'.cell? ⟨b.b, 2, none⟩ = some (.map (some b.fm)) ∧ w'.cell? ⟨y.p, 1, none⟩ = some (.int .i64 y.fl) ∧ (Instr.lookup 42 (.map (some b.fm)) (.int .i64 y.fl) false).run Tryz.prog w' = .ok (.agg #[.pointer (some ⟨x.M.f, 0, none⟩), .pointer (some ⟨x.q, 0, none⟩)]) w') := zh fun w' F => by
    have hq := h.fresh (HFW.out.trans F)
    have hl := hq.fmv.at' (t := 42) Tryz.underlying42 (z := .agg #[.pointer none, .pointer none]) (fun _ => by kernel_rfl) (k := y.fl) hb.wf.1
    rw [BoM.fv_some hx] at hl
    exact ⟨hq.blk.cell 2, (hq.bo k y hy).1.blk.cell 1, hl⟩
  have HH := zh h
  have HX := zh hx
  have HY := zh hy
  have HB0 : Hid (Blk W w.heap.size 29 (replyC 0)) := zh (by rw [← hW]; exact Blk.new _ _ _)
  have HWS : Hid (W.heap.size = w.heap.size + 1) := zh (by rw [← hW]; exact Array.size_push _)
  have hym : wf64 y.id := by have := hb.id; have := hb.kb; have := h.nw; exact ⟨by omega, by omega⟩
  have HYM := zh hym
  clear hb hlt hp hx hy h hym
  go_in
  go_upto_region 1 with fail
  unfold replyC at hW
  try rw [hW]
  clear hW
  refine wp_region_held_drew (S := fun w' => w'.cell? ⟨b.b, 2, none⟩ = some (.map (some b.fm)) ∧ w'.cell? ⟨y.p, 1, none⟩ = some (.int .i64 y.fl) ∧ (Instr.lookup 42 (.map (some b.fm)) (.int .i64 y.fl) false).run Tryz.prog w' = .ok (.agg #[.pointer (some ⟨x.M.f, 0, none⟩), .pointer (some ⟨x.q, 0, none⟩)]) w') (by kernel_rfl) (HS1.out _ (Frm.refl (fun _ => False) W).drew) (fun hHeld => ?_)
  iterate 9 ((first | refine ztn (v := ?_) (zo rfl) ?_ | refine ztz (v := ?_) (zo rfl) ?_); try simp only [Act.put, zT, zZ, zS])
  refine zr1 9 (zo rfl) (fun K hK => ?_)
  go_simp
  have HB9 := zh (Blk.new W.drew 75 #[.pointer none, .pointer none])
  have HF9 : Hid (Fresh W (W.drew.alloc (.cells #[.pointer none, .pointer none] 75))) := zh (((Frm.refl (fun _ => False) W).drew).alloc _)
  refine hK.out _ _ (HS1.out _ HF9.out) (fun hHeld => ?_)
  clear hK K
  try simp only [Act.put, zT, zZ, zS]
  refine zr1 10 (zo rfl) (fun K hK => ?_)
  rw [if_pos (by rfl)]
  refine wp_store_mid _ _ _ rfl _ 0 #[.pointer (some ⟨x.M.f, 0, none⟩), .pointer (some ⟨x.q, 0, none⟩)] rfl rfl (HB9.out.there rfl) (by kernel_rfl) (by kernel_rfl) ?_
  have HB10 := zh (blk_setAll HB9.out (vs := [.pointer (some ⟨x.M.f, 0, none⟩), .pointer (some ⟨x.q, 0, none⟩)]) rfl)
  have HF10 := zh (HF9.out.trans' (frm_setCells W.heap.size [.pointer (some ⟨x.M.f, 0, none⟩), .pointer (some ⟨x.q, 0, none⟩)] 0 (W.drew.alloc (.cells #[.pointer none, .pointer none] 75))) (fun k hk e => by omega))
  refine hK.out _ _ (HS1.out _ HF10.out) (fun hHeld => ?_)
  clear hK K
  try simp only [Act.put, zT, zZ, zS]
  refine wpAnyH_done (by kernel_rfl) ?_ _
  obtain ⟨W2, hW2⟩ : ∃ W2, (W.drew.alloc (.cells #[.pointer none, .pointer none] 75)).setCells W.heap.size 0 [.pointer (some ⟨x.M.f, 0, none⟩), .pointer (some ⟨x.q, 0, none⟩)] = W2 := ⟨_, rfl⟩
  have hf2 := HF10.out
  have hb2 := HB10.out
  rw [hW2] at hf2
  rw [show W.drew.heap.size = W.heap.size from rfl, hW2, HWS.out] at hb2
  have HF2 : Hid (Fresh w W2) := zh (HFW.out.trans hf2)
  have HBP := zh hb2
  have HB02 := zh (HB0.out.frm hf2 (fun f => f))
  have HSZ : Hid (w.heap.size + 1 ≤ W2.heap.size) := zh (by have := hf2.size; have := HWS.out; omega)
  have y0 : W2.cell? ⟨y.p, 0, none⟩ = some (.int .i64 y.id) := ((HH.out.bo k y HY.out).1.frm HF2.out (fun f => f)).blk.cell 0
  rw [show (W.alloc (.cells #[.pointer none, .pointer none] 75)).drew.setCells W.heap.size 0 [.pointer (some ⟨x.M.f, 0, none⟩), .pointer (some ⟨x.q, 0, none⟩)] = W2 from hW2, HWS.out]
  clear HF9 HB9 HF10 HB10 hf2 hb2 HS1 HB0 hW2
  go_wp2_with fail
  refine (ofP_any W2 y.id).mono ?_
  rintro e V ⟨s, k1, hs, rfl, fV⟩
  have HFV : Hid (Fresh w V) := zh (HF2.out.trans fV)
  have HB : Hid (Blk V w.heap.size 29 (replyC 0)) := zh (HB02.out.frm fV (fun f => f))
  have HBQ := zh (HBP.out.frm fV (fun f => f))
  have HS : Hid (∀ w', Fresh V w' → (w'.cell? ⟨y.p, 0, none⟩ = some (.int .i64 y.id) ∧ w'.cell? ⟨y.p, 1, none⟩ = some (.int .i64 y.fl) ∧ w'.cell? ⟨y.p, 2, none⟩ = some (.int .i64 y.cl) ∧ w'.cell? ⟨y.p, 3, none⟩ = some (.int .i64 y.mn) ∧ w'.cell? ⟨y.p, 4, none⟩ = some (.int .i64 y.st) ∧ w'.cell? ⟨y.p, 5, none⟩ = some (.int .i64 y.un)) ∧ w'.cell? ⟨w.heap.size + 1, 0, none⟩ = some (.pointer (some ⟨x.M.f, 0, none⟩))) := zh fun w' F => by
    have hy := ((HH.out.bo k y HY.out).1.frm (HFV.out.trans F) (fun f => f)).blk
    exact ⟨⟨hy.cell 0, hy.cell 1, hy.cell 2, hy.cell 3, hy.cell 4, hy.cell 5⟩, (HBQ.out.frm F (fun f => f)).cell 0⟩
  have HLF : Hid (∀ w', Fresh V w' → Calls Tryz.prog 24 #[.pointer (some ⟨x.M.f, 0, none⟩)] w' fun e w'' => PLeftPost w' x.M.ls.length e w'') := zh fun w' F => pLeft_any w' B x.M ((HH.out.pl _ x HX.out).1.f.fresh (HFV.out.trans F))
  have HLB : Hid (∀ w', Fresh V w' → Calls Tryz.prog 64 #[.pointer (some ⟨x.M.f, 0, none⟩), .int .i64 y.id] w' fun e w'' => LblsPost w' e w'') := zh fun w' F => labelsP_any w' B x.M ((HH.out.pl _ x HX.out).1.f.fresh (HFV.out.trans F)) y.id HYM.out
  have HST : Hid (∀ w' w'', Fresh V w' → Frm (fun k => w.heap.size = k) w' w'' → (w''.cell? ⟨y.p, 0, none⟩ = some (.int .i64 y.id) ∧ w''.cell? ⟨y.p, 1, none⟩ = some (.int .i64 y.fl) ∧ w''.cell? ⟨y.p, 2, none⟩ = some (.int .i64 y.cl) ∧ w''.cell? ⟨y.p, 3, none⟩ = some (.int .i64 y.mn) ∧ w''.cell? ⟨y.p, 4, none⟩ = some (.int .i64 y.st) ∧ w''.cell? ⟨y.p, 5, none⟩ = some (.int .i64 y.un)) ∧ w''.cell? ⟨w.heap.size + 1, 0, none⟩ = some (.pointer (some ⟨x.M.f, 0, none⟩))) := zh fun w' w'' F G => by
    have hy0 := (HH.out.bo k y HY.out).1.blk
    have hlt := hy0.lt
    have hy := ((HH.out.bo k y HY.out).1.frm (HFV.out.trans F) (fun f => f)).blk.frm G (by omega)
    exact ⟨⟨hy.cell 0, hy.cell 1, hy.cell 2, hy.cell 3, hy.cell 4, hy.cell 5⟩, ((HBQ.out.frm F (fun f => f)).frm G (by omega)).cell 0⟩
  clear fV hs HB02 HBP HSZ HF2 y0
  go_wp2_with fail
  refine wp_region_held_drew (S := fun w' => (w'.cell? ⟨y.p, 0, none⟩ = some (.int .i64 y.id) ∧ w'.cell? ⟨y.p, 1, none⟩ = some (.int .i64 y.fl) ∧ w'.cell? ⟨y.p, 2, none⟩ = some (.int .i64 y.cl) ∧ w'.cell? ⟨y.p, 3, none⟩ = some (.int .i64 y.mn) ∧ w'.cell? ⟨y.p, 4, none⟩ = some (.int .i64 y.st) ∧ w'.cell? ⟨y.p, 5, none⟩ = some (.int .i64 y.un)) ∧ w'.cell? ⟨w.heap.size + 1, 0, none⟩ = some (.pointer (some ⟨x.M.f, 0, none⟩))) (by kernel_rfl) (HS.out _ ((Frm.refl (fun _ => False) V).drew)) (fun hHeld => ?_)
  iterate 23 ((first | refine ztn (v := ?_) (zo rfl) ?_ | refine ztz (v := ?_) (zo rfl) ?_); try simp only [Act.put, zT, zZ, zS])
  (refine zt 24 (v := ?_) (zo rfl) ?_; try simp only [Act.put, zT, zZ, zS])
  iterate 5 (refine ztn (v := ?_) (zo rfl) ?_; try simp only [Act.put, zT, zZ, zS])
  refine zr1 23 (zo rfl) (fun K hK => ?_)
  go_simp
  refine (HLF.out V.drew ((Frm.refl (fun _ => False) V).drew)).mono ?_
  rintro e w4 ⟨v4, zs, rfl, hzl, s4, f4⟩
  clear hzl
  obtain ⟨A4, c4, rfl, _, _, _⟩ := s4.shape
  have HF4 : Hid (Fresh V w4) := zh (((Frm.refl (fun _ => False) V).drew).trans f4)
  clear s4 f4
  refine hK.out _ _ (HS.out _ HF4.out) (fun hHeld => ?_)
  clear hK K
  try simp only [Act.put, zT, zZ, zS]
  refine zr1 30 (zo rfl) (fun K hK => ?_)
  go_simp
  refine (HLB.out w4 HF4.out).mono ?_
  rintro e w5 ⟨A5, n5, c5, rfl, f5⟩
  have HF5 : Hid (Fresh V w5) := zh (HF4.out.trans f5)
  have HB5 := zh (HB.out.frm HF5.out (fun f => f))
  clear f5
  refine hK.out _ _ (HS.out _ HF5.out) (fun hHeld => ?_)
  clear hK K
  try simp only [Act.put, zT, zZ, zS]
  (refine ztn (v := ?_) (zo rfl) ?_; try simp only [Act.put, zT, zZ, zS])
  refine zr1 32 (zo rfl) (fun K hK => ?_)
  rw [if_pos (by rfl)]
  refine wp_store_mid _ _ _ rfl _ 0 #[.int .i64 0, .string s, .int .i64 y.st, .int .i64 y.fl, .int .i64 y.cl, .int .i64 y.mn, .int .i64 y.un, .slice A4 zs.length c4, .slice A5 n5 c5] rfl rfl (HB5.out.there rfl) (by kernel_rfl) (by kernel_rfl) ?_
  have HB6 := zh (blk_setAll HB5.out (vs := [.int .i64 0, .string s, .int .i64 y.st, .int .i64 y.fl, .int .i64 y.cl, .int .i64 y.mn, .int .i64 y.un, .slice A4 zs.length c4, .slice A5 n5 c5]) rfl)
  have HF6 := zh ((HFV.out.trans HF5.out).trans' (frm_setCells w.heap.size [.int .i64 0, .string s, .int .i64 y.st, .int .i64 y.fl, .int .i64 y.cl, .int .i64 y.mn, .int .i64 y.un, .slice A4 zs.length c4, .slice A5 n5 c5] 0 w5) (fun k hk e => by omega))
  refine hK.out _ _ (HST.out _ _ HF5.out (frm_setCells w.heap.size [.int .i64 0, .string s, .int .i64 y.st, .int .i64 y.fl, .int .i64 y.cl, .int .i64 y.mn, .int .i64 y.un, .slice A4 zs.length c4, .slice A5 n5 c5] 0 w5)) (fun hHeld => ?_)
  clear hK K
  try simp only [Act.put, zT, zZ, zS]
  refine wpAnyH_done (by kernel_rfl) ?_ _
  obtain ⟨zs', hz'⟩ : ∃ zs' : List Value, zs' = [.int .i64 0, .string s, .int .i64 y.st, .int .i64 y.fl, .int .i64 y.cl, .int .i64 y.mn, .int .i64 y.un, .slice A4 zs.length c4, .slice A5 n5 c5] := ⟨_, rfl⟩
  have HRZ : Hid (RepZ zs') := zh (by rw [hz']; exact ⟨rfl, by kernel_rfl⟩)
  have hb6 := HB6.out
  have hf6 := HF6.out
  rw [← hz'] at hb6 hf6 ⊢
  have HB7 := zh hb6
  have HF7 := zh hf6
  clear hz' hb6 hf6 HB6 HF6
  go_wp2_with fail
  exact rep_done rfl rfl HB7.out HRZ.out ⟨zs', HRZ.out, rfl, HF7.out⟩
end
end Go.Proofs.YtbeaoddjomdlcaaGreatDoor

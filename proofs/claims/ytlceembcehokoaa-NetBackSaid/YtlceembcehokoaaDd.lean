/- Dn5, DnL, DnM, DnR. (Put together by mg.py.) -/
import Derived.Test.YtlceembcehokoaaDc
import Derived.Test.YtlceembcehokoaaCc
namespace Go.Proofs.Ytlceembcehokoaa
open Go.RowKit ReadM
set_option linter.unusedVariables false
set_option maxRecDepth 100000

/-! ### Messages without their addresses -/
def eraseE (e : En) : En := ⟨e.i, e.t, e.k, none, 0, e.d⟩
def erase (m : MsgM) : MsgM := ⟨m.kd, m.fr, m.to, m.tm, m.ix, m.lt, m.ys, m.cm, m.hn, m.rd, none, 0, m.es.map eraseE, m.si, m.st, none, 0, m.vs, none, 0, m.ls, none, 0, m.ds⟩
theorem allE_erase (es : List En) : allE (es.map eraseE) = allE es := by
  unfold allE
  by_cases h : ∀ e ∈ es, rightE e.i e.t e.k e.d.length = true
  · rw [decide_eq_true h]
    refine decide_eq_true (fun e he => ?_)
    obtain ⟨x, hx, rfl⟩ := List.mem_map.1 he
    exact h x hx
  · rw [decide_eq_false h]
    refine decide_eq_false (fun k => h (fun e he => ?_))
    exact k (eraseE e) (List.mem_map.2 ⟨e, he, rfl⟩)
theorem rightP_erase (m : MsgM) : rightP (erase m) = rightP m := by
  have h1 : num4 (erase m) = num4 m := rfl
  have h2 : sgnB (erase m) = sgnB m := rfl
  have h4 : nodB (erase m) = nodB m := rfl
  have h5 : empB (erase m) = empB m := rfl
  have h3 : entB (erase m) = entB m := by
    unfold entB
    show decide ((m.es.map eraseE).length = 0 ∨ (m.kd = 5 ∧ (m.es.map eraseE).length ≤ 8 ∧ allE (m.es.map eraseE) = true)) = _
    simp only [List.length_map, allE_erase]
  unfold rightP
  rw [h1, h2, h3, h4, h5]
  rfl
/-! ### What is read -/
def readE (s : RS) : En × RS :=
  let a := rdn 1099511627776 s
  let b := rdn 1099511627776 a.2
  let c := rdn 7 b.2
  let d := rdt 4096 c.2
  (⟨a.1, b.1, c.1, none, 0, d.1⟩, d.2)
def readEs : Nat → List En → RS → List En × RS
  | 0, l, s => (l, s)
  | k + 1, l, s => readEs k (l ++ [(readE s).1]) (readE s).2
/-- a message's head: its ten fields, and how many entries there are -/
structure HdM where
  kd : Nat
  fr : Nat
  to : Nat
  tm : Nat
  ix : Int
  lt : Nat
  yn : Nat
  cm : Nat
  hn : Int
  rd : Nat
  n : Nat
def readH (s : RS) : HdM × RS :=
  let a0 := rdn 10 s
  let a1 := rdn 15 a0.2
  let a2 := rdn 15 a1.2
  let a3 := rdn 1099511627776 a2.2
  let a4 := rdi a3.2
  let a5 := rdn 1099511627776 a4.2
  let a6 := rdn 1 a5.2
  let a7 := rdn 1099511627776 a6.2
  let a8 := rdi a7.2
  let a9 := rdn 1099511627776 a8.2
  let a10 := rdn 8 a9.2
  (⟨a0.1, a1.1, a2.1, a3.1, a4.1, a5.1, a6.1, a7.1, a8.1, a9.1, a10.1⟩, a10.2)
def sc0 : SC := ⟨0, 0, [], [], []⟩
/-- the message of a head, entries, a snapshot -/
def msgOf (h : HdM) (es : List En) (c : SC) : MsgM := ⟨h.kd, h.fr, h.to, h.tm, h.ix, h.lt, decide (h.yn = 1), h.cm, h.hn, h.rd, none, 0, es, (c.i : Int), (c.t : Int), none, 0, c.vs, none, 0, c.ls, none, 0, c.ds⟩
/-- the snapshot of a text: of none the zero one -/
def snapOf (t : List UInt8) : Option SC := if t.length = 0 then some sc0 else decS t
def decX (x : List UInt8) : Option MsgM :=
  let h := readH (x, false)
  let l := readEs h.1.n [] h.2
  let t := rdt 65536 l.2
  match snapOf t.1 with
  | none => none
  | some c => if wholeS t.2 = true ∧ rightP (msgOf h.1 l.1 c) = true then some (msgOf h.1 l.1 c) else none
def decM (b : List UInt8) : Option MsgM := match Rc.scan b with
  | ([x], n) => if n = b.length then decX x else none
  | _ => none
theorem readEs_len : ∀ (k : Nat) (l : List En) (s : RS), (readEs k l s).1.length = l.length + k ∧ (readEs k l s).2.1.length ≤ s.1.length
  | 0, l, s => ⟨rfl, Nat.le_refl _⟩
  | k + 1, l, s => by
    have h := readEs_len k (l ++ [(readE s).1]) (readE s).2
    have h2 : (readE s).2.1.length ≤ s.1.length := by
      unfold readE
      dsimp only
      have a := rdn_len 1099511627776 s
      have b := rdn_len 1099511627776 (rdn 1099511627776 s).2
      have c := rdn_len 7 (rdn 1099511627776 (rdn 1099511627776 s).2).2
      have d := rdt_len 4096 (rdn 7 (rdn 1099511627776 (rdn 1099511627776 s).2).2).2
      omega
    rw [List.length_append, List.length_singleton] at h
    unfold readEs
    omega
/-! ### The program's closures -/
structure ND (w : World) (p6 p7 g : Nat) (s : RS) (wk : World) : Prop where
  c6 : Blk wk p6 83 #[.pointer (some ⟨g, 0, none⟩)]
  c7 : Blk wk p7 86 #[.func (.func 52) #[] #[.pointer (some ⟨p6, 0, none⟩)]]
  rdr : RdrAt wk g g s.1 s.2
  low : w.heap.size < g
  res : Blk wk w.heap.size 30 msg0
  frm : Fresh w wk
  len : s.1.length ≤ 1000000
theorem ND.fresh {w wk w' : World} {p6 p7 g : Nat} {s : RS} (h : ND w p6 p7 g s wk) (F : Fresh wk w') : ND w p6 p7 g s w' :=
  ⟨h.c6.frm F (fun f => f), h.c7.frm F (fun f => f), h.rdr.frm F (fun f => f) (fun _ _ f => f), h.low, h.res.frm F (fun f => f), h.frm.trans F, h.len⟩
theorem ND.glt {w wk : World} {p6 p7 g : Nat} {s : RS} (h : ND w p6 p7 g s wk) : g < wk.heap.size := by
  obtain ⟨_, hb⟩ := h.rdr.blk
  exact hb.lt
theorem ND.read {w wk w' : World} {p6 p7 g : Nat} {s t : RS} (h : ND w p6 p7 g s wk) (hr : RdrAt w' g g t.1 t.2) (F : Frm (fun k => k = g) wk w') (hl : t.1.length ≤ s.1.length) : ND w p6 p7 g t w' := by
  obtain ⟨_, hb⟩ := h.rdr.blk
  exact ⟨h.c6.frm F (h.c6.apart hb (by decide)), h.c7.frm F (h.c7.apart hb (by decide)), hr, h.low, h.res.frm F (h.res.apart hb (by decide)), h.frm.trans' F (fun k hk e => by have := h.low; omega), Nat.le_trans hl h.len⟩
/-- a store into a block of a type of its own, behind the reader -/
theorem ND.write {w wk w' : World} {p6 p7 g q : Nat} {s : RS} {t : TypeId} {cs : Array Value} (h : ND w p6 p7 g s wk) (hq : Blk wk q t cs) (h1 : t ≠ 83) (h2 : t ≠ 86) (hlt : g < q) (F : Frm (fun j => j = q) wk w') : ND w p6 p7 g s w' := by
  have hlow := h.low
  exact ⟨h.c6.frm F (h.c6.apart hq h1.symm), h.c7.frm F (h.c7.apart hq h2.symm), h.rdr.frm F (by omega) (fun k hk e => by omega), h.low, h.res.frm F (by omega), h.frm.trans' F (fun k hk e => by omega), h.len⟩
def NPost (w : World) (p6 p7 g : Nat) (wk : World) (x : Value) (t : RS) (e : Ending) (w' : World) : Prop :=
  e = .returned x ∧ ND w p6 p7 g t w' ∧ Frm (fun k => k = g) wk w'
set_option maxHeartbeats 1000000 in
theorem ND.number {w wk : World} {p6 p7 g : Nat} {s : RS} (h : ND w p6 p7 g s wk) (most : Nat) (hm : (most : Int) ≤ 1099511627776) {x : Nat} {t : RS} (hx : rdn most s = (x, t)) :
    Calls Try.prog 52 #[.int .i64 (most : Int), .pointer (some ⟨p6, 0, none⟩)] wk fun e w' => NPost w p6 p7 g wk (.int .i64 (x : Int)) t e w' := by
  have hn := pNum wk g s most (by omega) h.rdr
  have hl := rdn_len most s
  have hle := rdn_le most s
  rw [hx] at hn hl hle
  dsimp only at hl hle
  have HN := Lib.hid hn
  have HH := Lib.hid h
  have HL := Lib.hid hl
  have hp : wk.cell? ⟨p6, 0, none⟩ = some (.pointer (some ⟨g, 0, none⟩)) := h.c6.cell 0
  have hm0 : (0 : Int) ≤ (most : Int) := by omega
  have hw1 : IntKind.u64.wrap (most : Int) = (most : Int) := by rw [IntKind.wrap_u64]; omega
  have hw2 : IntKind.i64.wrap (x : Int) = (x : Int) := IntWalk.i64_in _ (by omega)
  clear h hn hx hl
  go_enter Try.func52, Try.ntmps52
  go_wp2_with fail
  refine HN.out.mono ?_
  rintro e w1 ⟨rfl, h1, f1⟩
  have H1 := Lib.hid (HH.out.read h1 f1 HL.out)
  have HF1 := Lib.hid f1
  clear h1 f1
  go_wp2_with fail
  go_ret
  exact ⟨rfl, H1.out, HF1.out⟩
set_option maxHeartbeats 1000000 in
theorem ND.index {w wk : World} {p6 p7 g : Nat} {s : RS} (h : ND w p6 p7 g s wk) {x : Nat} {t : RS} (hx : rdn 1099511627776 s = (x, t)) :
    Calls Try.prog 54 #[.pointer (some ⟨p7, 0, none⟩)] wk fun e w' => NPost w p6 p7 g wk (.int .i64 (x : Int)) t e w' := by
  have c7 : wk.cell? ⟨p7, 0, none⟩ = some (.func (.func 52) #[] #[.pointer (some ⟨p6, 0, none⟩)]) := h.c7.cell 0
  have HN := Lib.hid (h.number 1099511627776 (by omega) hx)
  clear h hx
  go_enter Try.func54, Try.ntmps54
  go_wp2_with fail
  refine HN.out.mono ?_
  rintro e w1 ⟨rfl, h1, f1⟩
  have H1 := Lib.hid h1
  have HF1 := Lib.hid f1
  clear h1 f1
  go_wp2_with fail
  go_ret
  exact ⟨rfl, H1.out, HF1.out⟩
set_option maxHeartbeats 1000000 in
theorem ND.signed {w wk : World} {p6 p7 g : Nat} {s : RS} (h : ND w p6 p7 g s wk) {x : Int} {t : RS} (hx : rdi s = (x, t)) :
    Calls Try.prog 55 #[.pointer (some ⟨p6, 0, none⟩)] wk fun e w' => NPost w p6 p7 g wk (.int .i64 x) t e w' := by
  have c6 : wk.cell? ⟨p6, 0, none⟩ = some (.pointer (some ⟨g, 0, none⟩)) := h.c6.cell 0
  have hn := pInt wk g s h.rdr
  have hl := rdi_len s
  have hi := rdi_in s
  rw [hx] at hn hl hi
  dsimp only at hl hi
  have HN := Lib.hid hn
  have HH := Lib.hid h
  have HL := Lib.hid hl
  have hw2 : IntKind.i64.wrap x = x := IntWalk.i64_in _ (by omega)
  clear h hn hx hl
  go_enter Try.func55, Try.ntmps55
  go_wp2_with fail
  refine HN.out.mono ?_
  rintro e w1 ⟨rfl, h1, f1⟩
  have H1 := Lib.hid (HH.out.read h1 f1 HL.out)
  have HF1 := Lib.hid f1
  clear h1 f1
  go_wp2_with fail
  go_ret
  exact ⟨rfl, H1.out, HF1.out⟩
/-- a struct's box behind the reader, of any type -/
def BoxT (g q : Nat) (t : TypeId) (cs : Array Value) (w : World) : Prop := g < q ∧ Blk w q t cs
theorem ND.boxOn {w wk w' : World} {p6 p7 g q : Nat} {s : RS} {t : TypeId} {cs : Array Value} (h : ND w p6 p7 g s wk) (ht : t ≠ 117) (hq : BoxT g q t cs wk) (F : Frm (fun k => k = g) wk w') : BoxT g q t cs w' := by
  obtain ⟨_, hb⟩ := h.rdr.blk
  exact ⟨hq.1, hq.2.frm F (hq.2.apart hb ht)⟩
theorem ND.stored {w wk : World} {p6 p7 g q : Nat} {s : RS} {t : TypeId} {cs : Array Value} (h : ND w p6 p7 g s wk) (h1 : t ≠ 83) (h2 : t ≠ 86) (hq : BoxT g q t cs wk) (l : List Value) (hl : l.length = cs.size) : ND w p6 p7 g s (wk.setCells q 0 l) ∧ BoxT g q t l.toArray (wk.setCells q 0 l) :=
  ⟨h.write hq.2 h1 h2 hq.1 (by
    have := frm_setCells q l 0 wk
    have e : (fun k => q = k) = (fun k => k = q) := by funext k; exact propext eq_comm
    rwa [e] at this), hq.1, blk_all hq.2 l hl⟩
end Go.Proofs.Ytlceembcehokoaa
namespace Go.Proofs.Ytlceembcehokoaa
open Go.RowKit ReadM
set_option linter.unusedVariables false
set_option maxRecDepth 100000

/-- a message's cells while it is read -/
def hcells (h : HdM) (v : Value) : Array Value := #[.int .i64 (h.kd : Int), .int .i64 (h.fr : Int), .int .i64 (h.to : Int), .int .i64 (h.tm : Int), .int .i64 h.ix, .int .i64 (h.lt : Int), .bool (decide (h.yn = 1)), .int .i64 (h.cm : Int), .int .i64 h.hn, .int .i64 (h.rd : Int), v, .int .i64 0, .int .i64 0, .slice none 0 0, .slice none 0 0, .slice none 0 0]
theorem sl_apart {w : World} {B B' : Nat} {e e' : TypeId} {s s' : Nat} {v v' : Value} {n n' : Nat} {xs xs' : List Value} (h : Sl w B e s v n xs) (h' : Sl w B' e' s' v' n' xs') (hne : e ≠ e') {k : Nat} (hk : v.ownBlock = some k) : v'.ownBlock ≠ some k := by
  rcases h'.2 with ⟨rfl, _⟩ | ⟨g, o, cap, cur, rfl, hb, hh, hr⟩
  · simp [Value.ownBlock]
  · intro he
    have hg : g = k := own_at he
    subst hg
    exact h.apart hh hne hk
/-- an entry's bytes -/
def EDat (w : World) (B : Nat) (e : En) : Prop := Sl w B 5 1 (.slice e.A e.d.length e.c) e.d.length (e.d.map bv) ∧ e.d.length ≤ 4096
structure LI (w : World) (B p6 p7 g q : Nat) (h : HdM) (l : List En) (v : Value) (z : RS) (wk : World) : Prop where
  nd : ND w p6 p7 g z wk
  box : BoxT g q 30 (hcells h v) wk
  sl : Sl wk B 70 4 v l.length (l.flatMap ecells)
  dat : ∀ e ∈ l, EDat wk B e
  sz : B ≤ wk.heap.size
  qB : q < B
  p6B : p6 < B
  p7B : p7 < B
theorem ND.far {w wk w' : World} {B p6 p7 g : Nat} {s : RS} {S : Nat → Prop} (h : ND w p6 p7 g s wk) (F : Frm S wk w') (hS : ∀ k, S k → B ≤ k) (h6 : p6 < B) (h7 : p7 < B) (hg : g < B) : ND w p6 p7 g s w' := by
  have n : ∀ k, k < B → ¬ S k := fun k hk hs => by have := hS k hs; omega
  have hl := h.low
  exact ⟨h.c6.frm F (n _ h6), h.c7.frm F (n _ h7), h.rdr.frm F (n _ hg) (fun k hk => n k (by omega)), h.low, h.res.frm F (n _ (by omega)), h.frm.trans' F (fun k hk hs => by have := hS k hs; omega), h.len⟩
theorem LI.gB {w wk : World} {B p6 p7 g q : Nat} {h : HdM} {l : List En} {v : Value} {z : RS} (H : LI w B p6 p7 g q h l v z wk) : g < B := by
  have := H.box.1; have := H.qB; omega
theorem LI.fresh {w wk w' : World} {B p6 p7 g q : Nat} {h : HdM} {l : List En} {v : Value} {z : RS} (H : LI w B p6 p7 g q h l v z wk) (F : Fresh wk w') : LI w B p6 p7 g q h l v z w' :=
  ⟨H.nd.fresh F, ⟨H.box.1, H.box.2.frm F (fun f => f)⟩, H.sl.fresh F, fun e he => ⟨(H.dat e he).1.fresh F, (H.dat e he).2⟩, Nat.le_trans H.sz F.size, H.qB, H.p6B, H.p7B⟩
theorem LI.read {w wk w' : World} {B p6 p7 g q : Nat} {h : HdM} {l : List En} {v : Value} {z t : RS} (H : LI w B p6 p7 g q h l v z wk) (hn : ND w p6 p7 g t w') (F : Frm (fun k => k = g) wk w') : LI w B p6 p7 g q h l v t w' := by
  have hg := H.gB
  exact ⟨hn, H.nd.boxOn (by decide) H.box F, H.sl.frm F (fun k hk e => by have := (H.sl.lt k hk).1; omega), fun e he => ⟨(H.dat e he).1.frm F (fun k hk e' => by have := ((H.dat e he).1.lt k hk).1; omega), (H.dat e he).2⟩, Nat.le_trans H.sz F.size, H.qB, H.p6B, H.p7B⟩
/-- a store into an entry's own box, behind all -/
theorem LI.poke {w wk w' : World} {B p6 p7 g q qe : Nat} {h : HdM} {l : List En} {v : Value} {z : RS} {cs : Array Value} (H : LI w B p6 p7 g q h l v z wk) (hq : Blk wk qe 70 cs) (hB : B ≤ qe) (ho : ∀ k, v.ownBlock = some k → k ≠ qe) (F : Frm (fun k => k = qe) wk w') : LI w B p6 p7 g q h l v z w' := by
  have hqB := H.qB
  exact ⟨H.nd.far F (fun k hk => by omega) H.p6B H.p7B H.gB, ⟨H.box.1, H.box.2.frm F (by omega)⟩, H.sl.frm F (fun k hk e => ho k hk e), fun e he => ⟨(H.dat e he).1.frm F (fun k hk e' => by subst e'; exact (H.dat e he).1.apart hq (by decide) hk), (H.dat e he).2⟩, Nat.le_trans H.sz F.size, H.qB, H.p6B, H.p7B⟩
/-- an entry's own box -/
def EBox (B g qe : Nat) (v : Value) (cs : Array Value) (wk : World) : Prop := BoxT g qe 70 cs wk ∧ B ≤ qe ∧ ∀ k, v.ownBlock = some k → k ≠ qe
theorem LI.boxOn {w wk w' : World} {B p6 p7 g q qe : Nat} {h : HdM} {l : List En} {v : Value} {z : RS} {cs : Array Value} (H : LI w B p6 p7 g q h l v z wk) (hq : EBox B g qe v cs wk) (F : Frm (fun k => k = g) wk w') : EBox B g qe v cs w' :=
  ⟨H.nd.boxOn (by decide) hq.1 F, hq.2⟩
theorem LI.stored {w wk : World} {B p6 p7 g q qe : Nat} {h : HdM} {l : List En} {v : Value} {z : RS} {cs : Array Value} (H : LI w B p6 p7 g q h l v z wk) (hq : EBox B g qe v cs wk) (l' : List Value) (hl : l'.length = cs.size) :
    LI w B p6 p7 g q h l v z (wk.setCells qe 0 l') ∧ EBox B g qe v l'.toArray (wk.setCells qe 0 l') := by
  have F : Frm (fun k => k = qe) wk (wk.setCells qe 0 l') := by
    have := frm_setCells qe l' 0 wk
    have e : (fun k => qe = k) = (fun k => k = qe) := by funext k; exact propext eq_comm
    rwa [e] at this
  exact ⟨H.poke hq.1.2 hq.2.1 hq.2.2 F, ⟨hq.1.1, blk_all hq.1.2 l' hl⟩, hq.2⟩
theorem LI.poked {w wk : World} {B p6 p7 g q qe : Nat} {h : HdM} {l : List En} {v : Value} {z : RS} {cs : Array Value} (H : LI w B p6 p7 g q h l v z wk) (hq : EBox B g qe v cs wk) (i : Nat) (u : Value) :
    LI w B p6 p7 g q h l v z (wk.setCell ⟨qe, i, none⟩ u) ∧ EBox B g qe v (cs.setIfInBounds i u) (wk.setCell ⟨qe, i, none⟩ u) := by
  have F : Frm (fun k => k = qe) wk (wk.setCell ⟨qe, i, none⟩ u) := (Frm.refl (fun k => k = qe) wk).setCell (p := ⟨qe, i, none⟩) (fun _ => rfl) u
  exact ⟨H.poke hq.1.2 hq.2.1 hq.2.2 F, ⟨hq.1.1, hq.1.2.set i u⟩, hq.2⟩
/-- an entry appended, and the slice laid into the message -/
theorem LI.grow {w wk w5 : World} {B p6 p7 g q : Nat} {h : HdM} {l : List En} {v v' : Value} {z : RS} {e : En} (H : LI w B p6 p7 g q h l v z wk) (he : EDat wk B e)
    (hs : Sl w5 B 70 4 v' (l.length + 1) (l.flatMap ecells ++ ecells e)) (F : Frm (fun k => v.ownBlock = some k) wk w5) :
    LI w B p6 p7 g q h (l ++ [e]) v' z (w5.setCell ⟨q, 10, none⟩ v') := by
  have hqB := H.qB
  have hgq := H.box.1
  have hS : ∀ k, v.ownBlock = some k → B ≤ k := fun k hk => (H.sl.lt k hk).1
  have F2 : Frm (fun k => k = q) w5 (w5.setCell ⟨q, 10, none⟩ v') := (Frm.refl (fun k => k = q) w5).setCell (p := ⟨q, 10, none⟩) (fun _ => rfl) v'
  have n1 : ND w p6 p7 g z w5 := H.nd.far F hS H.p6B H.p7B H.gB
  have b1 : Blk w5 q 30 (hcells h v) := H.box.2.frm F (fun e' => by have := hS _ e'; omega)
  have d1 : ∀ x, EDat wk B x → EDat (w5.setCell ⟨q, 10, none⟩ v') B x := fun x hx =>
    ⟨(hx.1.frm F (fun k hk e' => sl_apart H.sl hx.1 (by decide) e' hk)).frm F2 (fun k hk e' => by
      have := ((hx.1.frm F (fun k hk e' => sl_apart H.sl hx.1 (by decide) e' hk)).lt k hk).1
      omega), hx.2⟩
  refine ⟨n1.write b1 (by decide) (by decide) hgq F2, ⟨hgq, b1.set 10 v'⟩, ?_, fun x hx => ?_, ?_, H.qB, H.p6B, H.p7B⟩
  · rw [List.length_append, List.flatMap_append]
    have hx : ([e].flatMap ecells) = ecells e := by simp
    rw [hx]
    exact hs.frm F2 (fun k hk e' => by have := (hs.lt k hk).1; omega)
  · rcases List.mem_append.1 hx with hx | hx
    · exact d1 x (H.dat x hx)
    · rw [List.mem_singleton] at hx
      rw [hx]
      exact d1 e he
  · have := H.sz
    have := F.size
    have := F2.size
    omega
end Go.Proofs.Ytlceembcehokoaa
namespace Go.Proofs.Ytlceembcehokoaa
open Go.RowKit ReadM
set_option linter.unusedVariables false
set_option maxRecDepth 100000

/-- a load of many cells under a guard that says yes -/
theorem wpList_load_want {P : Program} {ops : Array Oper} {rest : List Oper} {op : Oper} {a : Act} {w : World} {Q : Exit → Act → World → Prop} (hw : Region.wanted op (yielded ops a.tmps) = true) (ty : TypeId) (x : Operand) (ho : op.op = .load ty x)
    (b o : Nat) (hx : a.eval x = .pointer (some ⟨b, o, none⟩)) (cs : List Value) (d : TypeDesc) (hc : w.rangeAt b o cs)
    (hu : P.underlying ty = some d) (hd : d.isRow = true) (hi : (P.info? ty).map (·.size) = some cs.length)
    (h : wpList P ops Q rest (a.put op.dst (.agg cs.toArray)) w) : wpList P ops Q (op :: rest) a w :=
  BigFrame.wpList_want hw fun _ hK => wp_load_mid ty x ho b o hx cs d hc hu hd hi (hK _ _ h)
/-- what a message's reading answers -/
def NDPost (w : World) (r : Option MsgM) (e : Ending) (w' : World) : Prop :=
  match r with
  | none => e = .returned (.tuple #[.agg msg0, .int .i64 6]) ∧ Fresh w w'
  | some c => ∃ m, erase m = c ∧ e = .returned (.tuple #[.agg (mcells m), .int .i64 0]) ∧ RdM w' m ∧ Fresh w w'
theorem nd_no {w : World} {r : Option MsgM} {e : Ending} {w' : World} (h : r = none) (he : e = .returned (.tuple #[.agg msg0, .int .i64 6])) (F : Fresh w w') : NDPost w r e w' := by
  rw [h]; exact ⟨he, F⟩
theorem nd_yes {w : World} {r : Option MsgM} {m : MsgM} {e : Ending} {w' : World} (h : r = some (erase m)) (he : e = .returned (.tuple #[.agg (mcells m), .int .i64 0])) (hr : RdM w' m) (F : Fresh w w') : NDPost w r e w' := by
  rw [h]; exact ⟨m, rfl, he, hr, F⟩
theorem decX_of {x : List UInt8} {hd : HdM} {t10 z t11 : RS} {le : List En} {ts : List UInt8} (h1 : readH (x, false) = (hd, t10)) (h2 : readEs hd.n [] t10 = (le, z)) (h3 : rdt 65536 z = (ts, t11)) :
    decX x = match snapOf ts with
      | none => none
      | some c => if wholeS t11 = true ∧ rightP (msgOf hd le c) = true then some (msgOf hd le c) else none := by
  unfold decX
  simp only [h1, h2, h3] <;> rfl
theorem decX_bad {x : List UInt8} {hd : HdM} {t10 z t11 : RS} {le : List En} {ts : List UInt8} (h1 : readH (x, false) = (hd, t10)) (h2 : readEs hd.n [] t10 = (le, z)) (h3 : rdt 65536 z = (ts, t11)) (hs : snapOf ts = none) : decX x = none := by
  rw [decX_of h1 h2 h3, hs]
theorem decX_half {x : List UInt8} {hd : HdM} {t10 z t11 : RS} {le : List En} {ts : List UInt8} (h1 : readH (x, false) = (hd, t10)) (h2 : readEs hd.n [] t10 = (le, z)) (h3 : rdt 65536 z = (ts, t11)) (hw : wholeS t11 = false) : decX x = none := by
  rw [decX_of h1 h2 h3]
  split
  · rfl
  · rw [hw, if_neg (by simp)]
/-- a message with its addresses -/
def msgAt (h : HdM) (l : List En) (AE : Option Addr) (ce : Nat) (c : SC) (AV : Option Addr) (cv : Nat) (AL : Option Addr) (cl : Nat) (AD : Option Addr) (cd : Nat) : MsgM :=
  ⟨h.kd, h.fr, h.to, h.tm, h.ix, h.lt, decide (h.yn = 1), h.cm, h.hn, h.rd, AE, ce, l, (c.i : Int), (c.t : Int), AV, cv, c.vs, AL, cl, c.ls, AD, cd, c.ds⟩
theorem erase_at (h : HdM) (l : List En) (AE : Option Addr) (ce : Nat) (c : SC) (AV : Option Addr) (cv : Nat) (AL : Option Addr) (cl : Nat) (AD : Option Addr) (cd : Nat) :
    erase (msgAt h l AE ce c AV cv AL cl AD cd) = msgOf h (l.map eraseE) c := rfl
theorem hcells_at (h : HdM) (l : List En) (AE : Option Addr) (ce : Nat) : hcells h (.slice AE l.length ce) = mcells (msgAt h l AE ce sc0 none 0 none 0 none 0) := rfl
theorem decX_wrong {x : List UInt8} {hd : HdM} {t10 z t11 : RS} {l : List En} {ts : List UInt8} {c : SC} {m : MsgM} (h1 : readH (x, false) = (hd, t10)) (h2 : readEs hd.n [] t10 = (l.map eraseE, z)) (h3 : rdt 65536 z = (ts, t11)) (hs : snapOf ts = some c)
    (hm : erase m = msgOf hd (l.map eraseE) c) (hr : rightP m = false) : decX x = none := by
  rw [decX_of h1 h2 h3, hs]
  dsimp only
  rw [← hm, rightP_erase, hr, if_neg (by simp)]
theorem decX_right {x : List UInt8} {hd : HdM} {t10 z t11 : RS} {l : List En} {ts : List UInt8} {c : SC} {m : MsgM} (h1 : readH (x, false) = (hd, t10)) (h2 : readEs hd.n [] t10 = (l.map eraseE, z)) (h3 : rdt 65536 z = (ts, t11)) (hs : snapOf ts = some c)
    (hw : wholeS t11 = true) (hm : erase m = msgOf hd (l.map eraseE) c) (hr : rightP m = true) : decX x = some (erase m) := by
  rw [decX_of h1 h2 h3, hs]
  dsimp only
  rw [← hm, rightP_erase, hr, hw, if_pos ⟨rfl, rfl⟩]
theorem there_part {w : World} {q : Nat} {t : TypeId} {cs : Array Value} (h : Blk w q t cs) (o n : Nat) (hn : o + n ≤ cs.size) : w.there q o n := fun i hi => ⟨h.has (by omega), h.frozen _⟩
/-- while a message is finished -/
structure LK (w : World) (B g q : Nat) (m : MsgM) (wk : World) : Prop where
  box : BoxT g q 30 (mcells m) wk
  sl : Sl wk B 70 4 (.slice m.AE m.es.length m.ce) m.es.length (m.es.flatMap ecells)
  dat : ∀ e ∈ m.es, EDat wk B e
  sn : SlS wk B m.AV m.cv m.AL m.cl m.AD m.cd m.vs m.ls m.ds
  qB : q < B
  low : w.heap.size < g
  res : Blk wk w.heap.size 30 msg0
  frm : Fresh w wk
  el : m.es.length ≤ 8
theorem LK.fresh {w wk w' : World} {B g q : Nat} {m : MsgM} (H : LK w B g q m wk) (F : Fresh wk w') : LK w B g q m w' :=
  ⟨⟨H.box.1, H.box.2.frm F (fun f => f)⟩, H.sl.fresh F, fun e he => ⟨(H.dat e he).1.fresh F, (H.dat e he).2⟩, H.sn.frm F (fun _ _ _ f => f), H.qB, H.low, H.res.frm F (fun f => f), H.frm.trans F, H.el⟩
theorem SlS.zero (w : World) (B : Nat) : SlS w B none 0 none 0 none 0 [] [] [] :=
  ⟨Sl.nil _ _ _ _, Sl.nil _ _ _ _, Sl.nil _ _ _ _, by simp, by simp, by simp⟩
theorem LI.lk {w wk : World} {B p6 p7 g q : Nat} {h : HdM} {l : List En} {z : RS} {AE : Option Addr} {ce : Nat} (H : LI w B p6 p7 g q h l (.slice AE l.length ce) z wk) (hl : l.length ≤ 8) : LK w B g q (msgAt h l AE ce sc0 none 0 none 0 none 0) wk :=
  ⟨H.box, H.sl, H.dat, SlS.zero _ _, H.qB, H.nd.low, H.nd.res, H.nd.frm, hl⟩
/-- a list laid over a part of a block -/
theorem LK.snap {w wk : World} {B g q : Nat} {h : HdM} {l : List En} {AE : Option Addr} {ce : Nat} {c : SC} {AV : Option Addr} {cv : Nat} {AL : Option Addr} {cl : Nat} {AD : Option Addr} {cd : Nat}
    (H : LK w B g q (msgAt h l AE ce sc0 none 0 none 0 none 0) wk) (hs : SlS wk B AV cv AL cl AD cd c.vs c.ls c.ds) :
    LK w B g q (msgAt h l AE ce c AV cv AL cl AD cd) (wk.setCells q 11 [.int .i64 (c.i : Int), .int .i64 (c.t : Int), .slice AV c.vs.length cv, .slice AL c.ls.length cl, .slice AD c.ds.length cd]) := by
  have hqB := H.qB
  have hgq := H.box.1
  have hlow := H.low
  have F := frm_setCells q [Value.int .i64 (c.i : Int), .int .i64 (c.t : Int), .slice AV c.vs.length cv, .slice AL c.ls.length cl, .slice AD c.ds.length cd] 11 wk
  obtain ⟨cur, b1, b2, b3, b4⟩ := blk_setCells q [Value.int .i64 (c.i : Int), .int .i64 (c.t : Int), .slice AV c.vs.length cv, .slice AL c.ls.length cl, .slice AD c.ds.length cd] 11 wk _ H.box.2 (Nat.le_refl 16)
  have hcur : cur = mcells (msgAt h l AE ce c AV cv AL cl AD cd) := by
    apply Array.ext_getElem?
    intro j
    rcases Nat.lt_or_ge j 11 with hj | hj
    · rw [b3 j (Or.inl hj)]
      unfold mcells msgAt
      dsimp only
      rcases j with _ | _ | _ | _ | _ | _ | _ | _ | _ | _ | _ | j
      all_goals first | rfl | omega
    · rcases Nat.lt_or_ge j 16 with hk | hk
      · obtain ⟨i, rfl⟩ : ∃ i, j = 11 + i := ⟨j - 11, by omega⟩
        have hi : i < 5 := by omega
        rcases i with _ | _ | _ | _ | _ | i
        · exact b4 0 _ rfl
        · exact b4 1 _ rfl
        · exact b4 2 _ rfl
        · exact b4 3 _ rfl
        · exact b4 4 _ rfl
        · omega
      · rw [b3 j (Or.inr hk)]
        rw [Array.getElem?_eq_none (by exact hk), Array.getElem?_eq_none (by exact hk)]
  rw [hcur] at b1
  have nB : ∀ k, B ≤ k → ¬ (q = k) := fun k hk e => by omega
  exact ⟨⟨hgq, b1⟩, H.sl.frm F (fun k hk => nB k (H.sl.lt k hk).1), fun e he => ⟨(H.dat e he).1.frm F (fun k hk => nB k ((H.dat e he).1.lt k hk).1), (H.dat e he).2⟩, hs.frm F (fun k hk _ => nB k hk), hqB, hlow, H.res.frm F (by omega), H.frm.trans' F (fun k hk e => by omega), H.el⟩
theorem LK.rdm {w wk : World} {B g q : Nat} {m : MsgM} (H : LK w B g q m wk) : RdM wk m :=
  ⟨H.sl.rd, fun e he => (H.dat e he).1.rd, H.sn.rds, by have := H.el; omega, fun e he => by have := (H.dat e he).2; omega⟩
theorem LK.out {w wk : World} {B g q : Nat} {m : MsgM} (H : LK w B g q m wk) (cs : List Value) : RdM (wk.setCells w.heap.size 0 cs) m := by
  have hqB := H.qB
  have hgq := H.box.1
  have hlow := H.low
  have F := frm_setCells w.heap.size cs 0 wk
  have nB : ∀ k, B ≤ k → ¬ (w.heap.size = k) := fun k hk e => by omega
  exact ⟨(H.sl.frm F (fun k hk => nB k (H.sl.lt k hk).1)).rd, fun e he => ((H.dat e he).1.frm F (fun k hk => nB k ((H.dat e he).1.lt k hk).1)).rd, (H.sn.frm F (fun k hk _ => nB k hk)).rds, by have := H.el; omega, fun e he => by have := (H.dat e he).2; omega⟩
theorem decM_one {b x : List UInt8} (h : Rc.scan b = ([x], b.length)) : decM b = decX x := by
  unfold decM
  rw [h]
  dsimp only
  rw [if_pos rfl]
theorem decM_no {b : List UInt8} (h : ¬ ∃ x, Rc.scan b = ([x], b.length)) : decM b = none := by
  unfold decM
  split
  · rename_i x n hs
    by_cases hn : n = b.length
    · exact absurd ⟨x, by rw [hs, hn]⟩ h
    · rw [if_neg hn]
  · rfl
theorem one_len {b x : List UInt8} (h : Rc.scan b = ([x], b.length)) : x.length ≤ b.length := by
  have h1 := (Rc.recs_scan b).2
  have h2 := Rc.scan_len b
  rw [h] at h1 h2
  have h3 : Rc.recs [x] = Rc.rec x := by simp [Rc.recs]
  rw [h3, Rc.rec_len] at h2
  dsimp only at h2
  omega
theorem no_way {b : List UInt8} (h : ¬ ∃ x, Rc.scan b = ([x], b.length)) : (Rc.scan b).1.length ≠ 1 ∨ (Rc.scan b).2 ≠ b.length := by
  rcases Nat.decEq (Rc.scan b).1.length 1 with h1 | h1
  · exact .inl h1
  · refine .inr fun h2 => h ?_
    match hs : (Rc.scan b).1, h1 with
    | [x], _ => exact ⟨x, by rw [← hs, ← h2]⟩
end Go.Proofs.Ytlceembcehokoaa
namespace Go.Proofs.Ytlceembcehokoaa
open Go.RowKit ReadM
set_option linter.unusedVariables false
set_option maxRecDepth 100000

structure MD (w : World) (g : Nat) (s : RS) (wk : World) : Prop where
  rdr : DocAt wk g g s
  low : w.heap.size < g
  res : Blk wk w.heap.size 30 msg0
  frm : Fresh w wk
theorem MD.fresh {w wk w' : World} {g : Nat} {s : RS} (h : MD w g s wk) (F : Fresh wk w') : MD w g s w' :=
  ⟨h.rdr.fresh F, h.low, h.res.frm F (fun f => f), h.frm.trans F⟩
theorem MD.glt {w wk : World} {g : Nat} {s : RS} (h : MD w g s wk) : g < wk.heap.size := h.rdr.lt
theorem MD.read {w wk w' : World} {g : Nat} {s t : RS} (h : MD w g s wk) (hr : DocAt w' g g t) (F : Frm (fun k => k = g) wk w') : MD w g t w' := by
  obtain ⟨_, hb⟩ := h.rdr.blk
  exact ⟨hr, h.low, h.res.frm F (h.res.apart hb (by decide)), h.frm.trans' F (fun k hk e => by have := h.low; omega)⟩
theorem MD.far {w wk w' : World} {B g : Nat} {s : RS} {S : Nat → Prop} (h : MD w g s wk) (F : Frm S wk w') (hS : ∀ k, S k → B ≤ k) (hg : g < B) : MD w g s w' := by
  have n : ∀ k, k < B → ¬ S k := fun k hk hs => by have := hS k hs; omega
  have hl := h.low
  exact ⟨h.rdr.frm F (n _ hg) (fun k hk => n k (by omega)), h.low, h.res.frm F (n _ (by omega)), h.frm.trans' F (fun k hk hs => by have := hS k hs; omega)⟩
theorem MD.write {w wk w' : World} {g q : Nat} {s : RS} (h : MD w g s wk) (hlt : g < q) (F : Frm (fun j => j = q) wk w') : MD w g s w' :=
  h.far (B := q) F (fun k e => by omega) hlt
def MDPost (w : World) (g : Nat) (wk : World) (x : Value) (t : RS) (e : Ending) (w' : World) : Prop :=
  e = .returned x ∧ MD w g t w' ∧ Frm (fun k => k = g) wk w'
theorem MD.num {w wk : World} {g : Nat} {s : RS} (h : MD w g s wk) (most : Nat) {x : Nat} {t : RS} (hx : rdn most s = (x, t)) :
    Calls Try.prog 61 #[.pointer (some ⟨g, 0, none⟩), .int .u64 (most : Int)] wk fun e w' => MDPost w g wk (.int .u64 (x : Int)) t e w' := by
  refine (dNum wk g g s most h.rdr).mono ?_
  rintro e w' ⟨h1, h2, h3⟩
  rw [hx] at h1 h2
  exact ⟨h1, h.read h2 h3, h3⟩
theorem MD.int {w wk : World} {g : Nat} {s : RS} (h : MD w g s wk) {x : Int} {t : RS} (hx : rdi s = (x, t)) :
    Calls Try.prog 62 #[.pointer (some ⟨g, 0, none⟩), .int .i64 (-1099511627776), .int .i64 1099511627776] wk fun e w' => MDPost w g wk (.int .i64 x) t e w' := by
  refine (dInt wk g g s h.rdr).mono ?_
  rintro e w' ⟨h1, h2, h3⟩
  rw [hx] at h1 h2
  exact ⟨h1, h.read h2 h3, h3⟩
theorem MD.boxOn {w wk w' : World} {g q : Nat} {s : RS} {t : TypeId} {cs : Array Value} (h : MD w g s wk) (ht : t ≠ 93) (hq : BoxT g q t cs wk) (F : Frm (fun k => k = g) wk w') : BoxT g q t cs w' := by
  obtain ⟨_, hb⟩ := h.rdr.blk
  exact ⟨hq.1, hq.2.frm F (hq.2.apart hb ht)⟩
/-- the state of the loop over a message's entries -/
structure LR (w : World) (B g q : Nat) (h : HdM) (l : List En) (v : Value) (z : RS) (wk : World) : Prop where
  nd : MD w g z wk
  box : BoxT g q 30 (hcells h v) wk
  sl : Sl wk B 70 4 v l.length (l.flatMap ecells)
  dat : ∀ e ∈ l, EDat wk B e
  sz : B ≤ wk.heap.size
  qB : q < B
theorem LR.gB {w wk : World} {B g q : Nat} {h : HdM} {l : List En} {v : Value} {z : RS} (H : LR w B g q h l v z wk) : g < B := by
  have := H.box.1; have := H.qB; omega
theorem LR.fresh {w wk w' : World} {B g q : Nat} {h : HdM} {l : List En} {v : Value} {z : RS} (H : LR w B g q h l v z wk) (F : Fresh wk w') : LR w B g q h l v z w' :=
  ⟨H.nd.fresh F, ⟨H.box.1, H.box.2.frm F (fun f => f)⟩, H.sl.fresh F, fun e he => ⟨(H.dat e he).1.fresh F, (H.dat e he).2⟩, Nat.le_trans H.sz F.size, H.qB⟩
theorem LR.read {w wk w' : World} {B g q : Nat} {h : HdM} {l : List En} {v : Value} {z t : RS} (H : LR w B g q h l v z wk) (hn : MD w g t w') (F : Frm (fun k => k = g) wk w') : LR w B g q h l v t w' := by
  have hg := H.gB
  exact ⟨hn, H.nd.boxOn (by decide) H.box F, H.sl.frm F (fun k hk e => by have := (H.sl.lt k hk).1; omega), fun e he => ⟨(H.dat e he).1.frm F (fun k hk e' => by have := ((H.dat e he).1.lt k hk).1; omega), (H.dat e he).2⟩, Nat.le_trans H.sz F.size, H.qB⟩
theorem LR.poke {w wk w' : World} {B g q qe : Nat} {h : HdM} {l : List En} {v : Value} {z : RS} {cs : Array Value} (H : LR w B g q h l v z wk) (hq : Blk wk qe 70 cs) (hB : B ≤ qe) (ho : ∀ k, v.ownBlock = some k → k ≠ qe) (F : Frm (fun k => k = qe) wk w') : LR w B g q h l v z w' := by
  have hqB := H.qB
  exact ⟨H.nd.far F (fun k hk => by omega) H.gB, ⟨H.box.1, H.box.2.frm F (by omega)⟩, H.sl.frm F (fun k hk e => ho k hk e), fun e he => ⟨(H.dat e he).1.frm F (fun k hk e' => by subst e'; exact (H.dat e he).1.apart hq (by decide) hk), (H.dat e he).2⟩, Nat.le_trans H.sz F.size, H.qB⟩
theorem LR.boxOn {w wk w' : World} {B g q qe : Nat} {h : HdM} {l : List En} {v : Value} {z : RS} {cs : Array Value} (H : LR w B g q h l v z wk) (hq : EBox B g qe v cs wk) (F : Frm (fun k => k = g) wk w') : EBox B g qe v cs w' :=
  ⟨H.nd.boxOn (by decide) hq.1 F, hq.2⟩
theorem LR.stored {w wk : World} {B g q qe : Nat} {h : HdM} {l : List En} {v : Value} {z : RS} {cs : Array Value} (H : LR w B g q h l v z wk) (hq : EBox B g qe v cs wk) (l' : List Value) (hl : l'.length = cs.size) :
    LR w B g q h l v z (wk.setCells qe 0 l') ∧ EBox B g qe v l'.toArray (wk.setCells qe 0 l') := by
  have F : Frm (fun k => k = qe) wk (wk.setCells qe 0 l') := by
    have := frm_setCells qe l' 0 wk
    have e : (fun k => qe = k) = (fun k => k = qe) := by funext k; exact propext eq_comm
    rwa [e] at this
  exact ⟨H.poke hq.1.2 hq.2.1 hq.2.2 F, ⟨hq.1.1, blk_all hq.1.2 l' hl⟩, hq.2⟩
theorem LR.poked {w wk : World} {B g q qe : Nat} {h : HdM} {l : List En} {v : Value} {z : RS} {cs : Array Value} (H : LR w B g q h l v z wk) (hq : EBox B g qe v cs wk) (i : Nat) (u : Value) :
    LR w B g q h l v z (wk.setCell ⟨qe, i, none⟩ u) ∧ EBox B g qe v (cs.setIfInBounds i u) (wk.setCell ⟨qe, i, none⟩ u) := by
  have F : Frm (fun k => k = qe) wk (wk.setCell ⟨qe, i, none⟩ u) := (Frm.refl (fun k => k = qe) wk).setCell (p := ⟨qe, i, none⟩) (fun _ => rfl) u
  exact ⟨H.poke hq.1.2 hq.2.1 hq.2.2 F, ⟨hq.1.1, hq.1.2.set i u⟩, hq.2⟩
theorem LR.newbox {w wk : World} {B g q : Nat} {h : HdM} {l : List En} {v : Value} {z : RS} (H : LR w B g q h l v z wk) (cs : Array Value) : EBox B g wk.heap.size v cs (wk.alloc (.cells cs 70)) :=
  ⟨⟨H.nd.glt, Blk.new _ _ _⟩, H.sz, fun k hk => by have := (H.sl.lt k hk).2; omega⟩
theorem LR.grow {w wk w5 : World} {B g q : Nat} {h : HdM} {l : List En} {v v' : Value} {z : RS} {e : En} (H : LR w B g q h l v z wk) (he : EDat wk B e)
    (hs : Sl w5 B 70 4 v' (l.length + 1) (l.flatMap ecells ++ ecells e)) (F : Frm (fun k => v.ownBlock = some k) wk w5) :
    LR w B g q h (l ++ [e]) v' z (w5.setCell ⟨q, 10, none⟩ v') := by
  have hqB := H.qB
  have hgq := H.box.1
  have hS : ∀ k, v.ownBlock = some k → B ≤ k := fun k hk => (H.sl.lt k hk).1
  have F2 : Frm (fun k => k = q) w5 (w5.setCell ⟨q, 10, none⟩ v') := (Frm.refl (fun k => k = q) w5).setCell (p := ⟨q, 10, none⟩) (fun _ => rfl) v'
  have n1 : MD w g z w5 := H.nd.far F hS H.gB
  have b1 : Blk w5 q 30 (hcells h v) := H.box.2.frm F (fun e' => by have := hS _ e'; omega)
  have d1 : ∀ x, EDat wk B x → EDat (w5.setCell ⟨q, 10, none⟩ v') B x := fun x hx =>
    ⟨(hx.1.frm F (fun k hk e' => sl_apart H.sl hx.1 (by decide) e' hk)).frm F2 (fun k hk e' => by
      have := ((hx.1.frm F (fun k hk e' => sl_apart H.sl hx.1 (by decide) e' hk)).lt k hk).1
      omega), hx.2⟩
  refine ⟨n1.write hgq F2, ⟨hgq, b1.set 10 v'⟩, ?_, fun x hx => ?_, ?_, H.qB⟩
  · rw [List.length_append, List.flatMap_append]
    have hx : ([e].flatMap ecells) = ecells e := by simp
    rw [hx]
    exact hs.frm F2 (fun k hk e' => by have := (hs.lt k hk).1; omega)
  · rcases List.mem_append.1 hx with hx | hx
    · exact d1 x (H.dat x hx)
    · rw [List.mem_singleton] at hx
      rw [hx]
      exact d1 e he
  · have := H.sz
    have := F.size
    have := F2.size
    omega
theorem LR.lk {w wk : World} {B g q : Nat} {h : HdM} {l : List En} {z : RS} {AE : Option Addr} {ce : Nat} (H : LR w B g q h l (.slice AE l.length ce) z wk) (hl : l.length ≤ 8) : LK w B g q (msgAt h l AE ce sc0 none 0 none 0 none 0) wk :=
  ⟨H.box, H.sl, H.dat, SlS.zero _ _, H.qB, H.nd.low, H.nd.res, H.nd.frm, hl⟩
/-! ### A store into a snapshot's own box, behind all -/
theorem SlS.side {w : World} {B p : Nat} {cs : Array Value} {AV : Option Addr} {cv : Nat} {AL : Option Addr} {cl : Nat} {AD : Option Addr} {cd : Nat} {vs ls : List Int} {ds : List UInt8} (h : SlS w B AV cv AL cl AD cd vs ls ds) (hp : Blk w p 28 cs) (l' : List Value) : SlS (w.setCells p 0 l') B AV cv AL cl AD cd vs ls ds := by
  have F := frm_setCells p l' 0 w
  exact ⟨h.v.frm F (fun k hk e => by subst e; exact h.v.apart hp (by decide) hk), h.l.frm F (fun k hk e => by subst e; exact h.l.apart hp (by decide) hk), h.d.frm F (fun k hk e => by subst e; exact h.d.apart hp (by decide) hk), h.q1, h.q2, h.q3⟩
theorem LK.side {w wk : World} {B g q p : Nat} {m : MsgM} {cs : Array Value} (H : LK w B g q m wk) (hp : Blk wk p 28 cs) (hB : B ≤ p) (l' : List Value) : LK w B g q m (wk.setCells p 0 l') := by
  have F := frm_setCells p l' 0 wk
  have hqB := H.qB
  have hgq := H.box.1
  have hlow := H.low
  exact ⟨⟨hgq, H.box.2.frm F (by omega)⟩, H.sl.frm F (fun k hk e => by subst e; exact H.sl.apart hp (by decide) hk), fun e he => ⟨(H.dat e he).1.frm F (fun k hk e' => by subst e'; exact (H.dat e he).1.apart hp (by decide) hk), (H.dat e he).2⟩, H.sn.side hp l', hqB, hlow, H.res.frm F (by omega), H.frm.trans' F (fun k hk e => by omega), H.el⟩
/-! ### What the document's check of the whole message says more, a snapshot that is read has -/
theorem emp_sc0 {h : HdM} {l : List En} {AE : Option Addr} {ce : Nat} : empB (msgAt h l AE ce sc0 none 0 none 0 none 0) = true := by
  unfold empB emptyS
  exact decide_eq_true ⟨rfl, rfl, rfl, rfl, rfl⟩
theorem decS_right {bs : List UInt8} {c : SC} (h : decS bs = some c) : rightS (c.i : Int) (c.t : Int) c.vs c.ls c.ds = true := by
  unfold decS at h
  split at h
  · rename_i k
    injection h with h
    rw [← h]
    exact k.2
  · cases h
theorem rightD_emp {h : HdM} {l : List En} {AE : Option Addr} {ce : Nat} : rightD (msgAt h l AE ce sc0 none 0 none 0 none 0) = rightP (msgAt h l AE ce sc0 none 0 none 0 none 0) := by
  unfold rightD
  rw [emp_sc0, Bool.true_or, Bool.and_true]
theorem rightD_dec {bs : List UInt8} {h : HdM} {l : List En} {AE : Option Addr} {ce : Nat} {c : SC} {AV : Option Addr} {cv : Nat} {AL : Option Addr} {cl : Nat} {AD : Option Addr} {cd : Nat} (hd : decS bs = some c) :
    rightD (msgAt h l AE ce c AV cv AL cl AD cd) = rightP (msgAt h l AE ce c AV cv AL cl AD cd) := by
  unfold rightD
  have e : rightS (msgAt h l AE ce c AV cv AL cl AD cd).si (msgAt h l AE ce c AV cv AL cl AD cd).st (msgAt h l AE ce c AV cv AL cl AD cd).vs (msgAt h l AE ce c AV cv AL cl AD cd).ls (msgAt h l AE ce c AV cv AL cl AD cd).ds = true := decS_right hd
  rw [e, Bool.or_true, Bool.and_true]
end Go.Proofs.Ytlceembcehokoaa

/- The closures of net's Decode. -/
import Derived.Test.YtlceembcehokoaaNet2
import Derived.Test.YtlceembcehokoaaRead7
import Derived.Test.YtlceembcehokoaaReadMath2
import Derived.Deep.MidRow
namespace Go.Proofs.Ytlceembcehokoaa
open Go.RowKit ReadM
set_option maxRecDepth 100000

theorem op_here {o : Oper} {l : List Oper} : (List.toArray (o :: l))[0]? = some o := rfl
theorem op_later {a o : Oper} {l : List Oper} {n : Nat} (h : (List.toArray l)[n]? = some o) : (List.toArray (a :: l))[n + 1]? = some o := by
  simpa using h
theorem Blk.there {w : World} {q : Nat} {t : TypeId} {cs : Array Value} (h : Blk w q t cs) {n : Nat} (hn : n = cs.size) : w.there q 0 n := fun i hi => ⟨h.has (by omega), h.frozen _⟩
/-- what a closure that reads a number answers -/
def NumC (w : World) (g : Nat) (x : Int) (rest : List UInt8) (e : Ending) (w' : World) : Prop :=
  e = .returned (.int .i64 x) ∧ RdrAt w' g g rest false ∧ Frm (fun k => k = g) w w'
set_option maxHeartbeats 1000000 in
theorem numberC_any (w : World) (p g : Nat) (n : Nat) (rest bs : List UInt8) (most : Nat) (hm : (most : Int) ≤ 1099511627776) (hn : n ≤ most) (hbs : bs = FieldM.num n ++ rest) (hp : w.cell? ⟨p, 0, none⟩ = some (.pointer (some ⟨g, 0, none⟩))) (h : RdrAt w g g bs false) :
    Calls Try.prog 52 #[.int .i64 (most : Int), .pointer (some ⟨p, 0, none⟩)] w fun e w' => NumC w g (n : Int) rest e w' := by
  have HN0 := readNumber_any w g g bs false most (by omega) h
  subst hbs
  rw [show ifGood false (numRes most (FieldM.num n ++ rest)) = some (n, rest) from numRes_num (by omega) hn rest] at HN0
  unfold NumPost at HN0
  dsimp only at HN0
  have HN := Lib.hid HN0
  have hm0 : (0 : Int) ≤ (most : Int) := by omega
  have hw1 : IntKind.u64.wrap (most : Int) = (most : Int) := by rw [IntKind.wrap_u64]; omega
  have hw2 : IntKind.i64.wrap (n : Int) = (n : Int) := IntWalk.i64_in _ (by omega)
  clear h HN0
  go_enter Try.func52, Try.ntmps52
  go_wp2_with fail
  refine HN.out.mono ?_
  rintro e w1 ⟨rfl, h1, f1⟩
  have H1 := Lib.hid h1
  have HF1 := Lib.hid f1
  clear h1 f1
  unfold uv
  go_wp2_with fail
  go_ret
  exact ⟨rfl, H1.out, HF1.out⟩
abbrev msg0 : Array Value := #[.int .i64 0, .int .i64 0, .int .i64 0, .int .i64 0, .int .i64 0, .int .i64 0, .bool false, .int .i64 0, .int .i64 0, .int .i64 0, .slice none 0 0, .int .i64 0, .int .i64 0, .slice none 0 0, .slice none 0 0, .slice none 0 0]
/-- while a message is decoded -/
structure Dec (w : World) (p6 p7 g : Nat) (bs : List UInt8) (wk : World) : Prop where
  c6 : Blk wk p6 83 #[.pointer (some ⟨g, 0, none⟩)]
  c7 : Blk wk p7 86 #[.func (.func 52) #[] #[.pointer (some ⟨p6, 0, none⟩)]]
  rdr : RdrAt wk g g bs false
  low : w.heap.size < g
  res : Blk wk w.heap.size 30 msg0
  frm : Fresh w wk
theorem RdrAt.blk {w : World} {B g : Nat} {bs : List UInt8} {bad : Bool} (h : RdrAt w B g bs bad) : ∃ cs, Blk w g 117 cs := by
  obtain ⟨_, _, h, _⟩ := h; exact ⟨_, h⟩
theorem Dec.fresh {w wk w' : World} {p6 p7 g : Nat} {bs : List UInt8} (h : Dec w p6 p7 g bs wk) (F : Fresh wk w') : Dec w p6 p7 g bs w' :=
  ⟨h.c6.frm F (fun f => f), h.c7.frm F (fun f => f), h.rdr.frm F (fun f => f) (fun _ _ f => f), h.low, h.res.frm F (fun f => f), h.frm.trans F⟩
theorem Dec.read {w wk w' : World} {p6 p7 g : Nat} {bs cs : List UInt8} (h : Dec w p6 p7 g bs wk) (hr : RdrAt w' g g cs false) (F : Frm (fun k => k = g) wk w') : Dec w p6 p7 g cs w' := by
  obtain ⟨_, hb⟩ := h.rdr.blk
  exact ⟨h.c6.frm F (h.c6.apart hb (by decide)), h.c7.frm F (h.c7.apart hb (by decide)), hr, h.low, h.res.frm F (h.res.apart hb (by decide)), h.frm.trans' F (fun k hk e => by have := h.low; omega)⟩
theorem Dec.write {w wk w' : World} {p6 p7 g q : Nat} {bs : List UInt8} {cs : Array Value} (h : Dec w p6 p7 g bs wk) (hq : Blk wk q 30 cs) (hlt : g < q) (F : Frm (fun j => j = q) wk w') : Dec w p6 p7 g bs w' := by
  have hlow := h.low
  exact ⟨h.c6.frm F (h.c6.apart hq (by decide)), h.c7.frm F (h.c7.apart hq (by decide)), h.rdr.frm F (by omega) (fun k hk e => by omega), h.low, h.res.frm F (by omega), h.frm.trans' F (fun k hk e => by omega)⟩
theorem Dec.poke {w wk : World} {p6 p7 g q : Nat} {bs : List UInt8} {cs : Array Value} (h : Dec w p6 p7 g bs wk) (hq : Blk wk q 30 cs) (hlt : g < q) (i : Nat) (u : Value) : Dec w p6 p7 g bs (wk.setCell ⟨q, i, none⟩ u) :=
  h.write hq hlt ((Frm.refl (fun j => j = q) wk).setCell (p := ⟨q, i, none⟩) (fun _ => rfl) u)
/-- a message's box while a closure reads -/
theorem Dec.keepM {w wk w' : World} {p6 p7 g q : Nat} {bs : List UInt8} {cs : Array Value} (h : Dec w p6 p7 g bs wk) (hq : Blk wk q 30 cs) (F : Frm (fun k => k = g) wk w') : Blk w' q 30 cs := by
  obtain ⟨_, hb⟩ := h.rdr.blk
  exact hq.frm F (hq.apart hb (by decide))
theorem blk_all {w : World} {q : Nat} {t : TypeId} {cs : Array Value} (h : Blk w q t cs) (l : List Value) (hl : l.length = cs.size) : Blk (w.setCells q 0 l) q t l.toArray := by
  obtain ⟨cur', k1, k2, _, k4⟩ := blk_setCells q l 0 w cs h (by omega)
  have e : cur' = l.toArray := by
    apply Array.ext
    · simp [k2, hl]
    · intro j h1 h2
      have h3 : j < l.length := by simpa using h2
      have := k4 j l[j] (by simp [h3])
      rw [Nat.zero_add, Array.getElem?_eq_getElem h1] at this
      injection this with this
  rw [← e]
  exact k1
theorem Dec.glt {w wk : World} {p6 p7 g : Nat} {bs : List UInt8} (h : Dec w p6 p7 g bs wk) : g < wk.heap.size := by
  obtain ⟨_, hb⟩ := h.rdr.blk
  exact hb.lt
/-- a message's box -/
def MBox (g q : Nat) (w : World) : Prop := g < q ∧ Blk w q 30 msg0
theorem Dec.boxNew {w wk w' : World} {p6 p7 g : Nat} {bs : List UInt8} (h : Dec w p6 p7 g bs wk) (F : Frm (fun k => k = g) (wk.alloc (.cells msg0 30)) w') : MBox g wk.heap.size w' :=
  ⟨h.glt, (h.fresh ((Frm.refl _ wk).alloc _)).keepM (Blk.new wk _ msg0) F⟩
theorem Dec.boxOn {w wk w' : World} {p6 p7 g q : Nat} {bs : List UInt8} (h : Dec w p6 p7 g bs wk) (hq : MBox g q wk) (F : Frm (fun k => k = g) wk w') : MBox g q w' := ⟨hq.1, h.keepM hq.2 F⟩
theorem Dec.stored {w wk : World} {p6 p7 g q : Nat} {bs : List UInt8} (h : Dec w p6 p7 g bs wk) (hq : MBox g q wk) : Dec w p6 p7 g bs (wk.setCells q 0 beat.toList) ∧ Blk (wk.setCells q 0 beat.toList) q 30 beat :=
  ⟨h.write hq.2 hq.1 (by
    have := frm_setCells q beat.toList 0 wk
    have e : (fun k => q = k) = (fun k => k = q) := by funext k; exact propext eq_comm
    rwa [e] at this), blk_all hq.2 beat.toList rfl⟩
def DPost (w : World) (p6 p7 g : Nat) (wk : World) (x : Int) (rest : List UInt8) (e : Ending) (w' : World) : Prop :=
  e = .returned (.int .i64 x) ∧ Dec w p6 p7 g rest w' ∧ Frm (fun k => k = g) wk w'
theorem Dec.number {w wk : World} {p6 p7 g : Nat} {bs : List UInt8} (h : Dec w p6 p7 g bs wk) (n most : Nat) (rest : List UInt8) (hm : (most : Int) ≤ 1099511627776) (hn : n ≤ most) (hbs : bs = FieldM.num n ++ rest) :
    Calls Try.prog 52 #[.int .i64 (most : Int), .pointer (some ⟨p6, 0, none⟩)] wk fun e w' => DPost w p6 p7 g wk (n : Int) rest e w' :=
  (numberC_any wk p6 g n rest bs most hm hn hbs (h.c6.cell 0) h.rdr).mono fun _ _ ⟨h1, h2, h3⟩ => ⟨h1, h.read h2 h3, h3⟩
set_option maxHeartbeats 1000000 in
theorem Dec.index {w wk : World} {p6 p7 g : Nat} {bs : List UInt8} (h : Dec w p6 p7 g bs wk) (n : Nat) (rest : List UInt8) (hn : n ≤ 1099511627776) (hbs : bs = FieldM.num n ++ rest) :
    Calls Try.prog 54 #[.pointer (some ⟨p7, 0, none⟩)] wk fun e w' => DPost w p6 p7 g wk (n : Int) rest e w' := by
  have c7 : wk.cell? ⟨p7, 0, none⟩ = some (.func (.func 52) #[] #[.pointer (some ⟨p6, 0, none⟩)]) := h.c7.cell 0
  have HN := Lib.hid (h.number n 1099511627776 rest (by omega) hn hbs)
  clear h
  go_enter Try.func54, Try.ntmps54
  go_wp2_with fail
  refine HN.out.mono ?_
  rintro e w1 ⟨rfl, h1, f1⟩
  have H1 := Lib.hid h1
  have HF1 := Lib.hid f1
  clear h1 f1
  go_wp2_with fail
  go_ret
  exact ⟨rfl, H1.out, HF1.out⟩
set_option maxHeartbeats 1000000 in
theorem Dec.signed {w wk : World} {p6 p7 g : Nat} {bs : List UInt8} (h : Dec w p6 p7 g bs wk) (x : Int) (rest : List UInt8) (h1 : -1099511627776 ≤ x) (h2 : x ≤ 1099511627776) (hbs : bs = FieldM.int x ++ rest) :
    Calls Try.prog 55 #[.pointer (some ⟨p6, 0, none⟩)] wk fun e w' => DPost w p6 p7 g wk x rest e w' := by
  have c6 : wk.cell? ⟨p6, 0, none⟩ = some (.pointer (some ⟨g, 0, none⟩)) := h.c6.cell 0
  have HN0 := readInt_any wk g g bs false (-1099511627776) 1099511627776 h.rdr
  subst hbs
  rw [show ifGood false (intRes (-1099511627776) 1099511627776 (FieldM.int x ++ rest)) = some (x, rest) from intRes_int (by omega) (by omega) h1 h2 rest] at HN0
  unfold IntPost at HN0
  dsimp only at HN0
  have HN := Lib.hid HN0
  have HH := Lib.hid h
  have hw2 : IntKind.i64.wrap x = x := IntWalk.i64_in _ (by omega)
  clear h HN0
  go_enter Try.func55, Try.ntmps55
  go_wp2_with fail
  refine HN.out.mono ?_
  rintro e w1 ⟨rfl, h1, f1⟩
  have H1 := Lib.hid (HH.out.read h1 f1)
  have HF1 := Lib.hid f1
  clear h1 f1
  unfold lv
  go_wp2_with fail
  go_ret
  exact ⟨rfl, H1.out, HF1.out⟩
/-- the message stands in its box -/
structure DB (w : World) (p6 p7 g q : Nat) (bs : List UInt8) (wk : World) : Prop where
  dec : Dec w p6 p7 g bs wk
  lt : g < q
  box : Blk wk q 30 beat
theorem DB.read {w wk w' : World} {p6 p7 g q : Nat} {bs cs : List UInt8} (h : DB w p6 p7 g q bs wk) (hd : Dec w p6 p7 g cs w') (F : Frm (fun k => k = g) wk w') : DB w p6 p7 g q cs w' := ⟨hd, h.lt, h.dec.keepM h.box F⟩
theorem DB.poke {w wk : World} {p6 p7 g q : Nat} {bs : List UInt8} (h : DB w p6 p7 g q bs wk) (i : Nat) (u : Value) (hu : beat.setIfInBounds i u = beat) : DB w p6 p7 g q bs (wk.setCell ⟨q, i, none⟩ u) := by
  refine ⟨h.dec.poke h.box h.lt i u, h.lt, ?_⟩
  have := h.box.set i u
  rwa [hu] at this
theorem DB.fresh {w wk w' : World} {p6 p7 g q : Nat} {bs : List UInt8} (h : DB w p6 p7 g q bs wk) (F : Fresh wk w') : DB w p6 p7 g q bs w' := ⟨h.dec.fresh F, h.lt, h.box.frm F (fun f => f)⟩
end Go.Proofs.Ytlceembcehokoaa

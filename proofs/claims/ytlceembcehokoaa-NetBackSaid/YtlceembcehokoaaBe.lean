/- Cd, Ce, Bk1, Bk2. (Put together by mg.py.) -/
import Derived.Test.YtlceembcehokoaaCb
import Derived.Test.YtlceembcehokoaaCc
import Derived.Test.YtlceembcehokoaaDd
import Derived.Test.YtlceembcehokoaaDg
import Derived.IntWalk
namespace Go.Proofs.Ytlceembcehokoaa
open Go.RowKit
set_option linter.unusedVariables false
set_option maxRecDepth 100000

def nz (zs : List Int) : List UInt8 := (zs.map Int.toNat).flatMap FieldM.num
theorem nz_le {zs : List Int} (h : ∀ z ∈ zs, 0 ≤ z ∧ z ≤ 1099511627776) : (nz zs).length ≤ 9 * zs.length := by
  have := nums_small (zs.map Int.toNat) (fun n hn => by
    obtain ⟨z, hz, rfl⟩ := List.mem_map.1 hn
    have := h z hz
    omega)
  rwa [List.length_map] at this
theorem ivs_toNat {zs : List Int} (h : ∀ z ∈ zs, 0 ≤ z ∧ z ≤ 1099511627776) : ((zs.map Int.toNat).map fun n : Nat => Value.int .i64 (n : Int)) = ivs zs := by
  rw [List.map_map]
  refine List.map_congr_left (fun z hz => ?_)
  have := h z hz
  show Value.int .i64 ((z.toNat : Nat) : Int) = _
  rw [Int.toNat_of_nonneg (by omega)]
def yI (b : Bool) : Int := if b = true then 1 else 0
def headM (m : MsgM) : List UInt8 := (((nz [m.kd, m.fr, m.to, m.tm] ++ FieldM.int m.ix) ++ nz [m.lt, yI m.ys, m.cm]) ++ FieldM.int m.hn) ++ nz [m.rd, (m.es.length : Int)]
def encE (e : En) : List UInt8 := nz [e.i, e.t, e.k] ++ FieldM.text e.d
def snapB (m : MsgM) : List UInt8 := if empB m = true then [] else encS m.si m.st m.vs m.ls m.ds
def bodyM (m : MsgM) : List UInt8 := (headM m ++ m.es.flatMap encE) ++ FieldM.text (snapB m)
theorem take_encE (es : List En) {j : Nat} (hj : j < es.length) : (es.take (j + 1)).flatMap encE = (es.take j).flatMap encE ++ encE es[j] := by
  rw [List.take_succ_eq_append_getElem hj, List.flatMap_append]
  simp
/-- what follows of a message that may be -/
structure OkM (m : MsgM) : Prop where
  nd : (1 ≤ m.kd ∧ m.kd ≤ 10) ∧ (1 ≤ m.fr ∧ m.fr ≤ 15) ∧ (1 ≤ m.to ∧ m.to ≤ 15)
  nu : okN m.tm ∧ okN m.lt ∧ okN m.cm ∧ okN m.rd
  sg : (-1099511627776 ≤ m.ix ∧ m.ix ≤ 1099511627776) ∧ (-1099511627776 ≤ m.hn ∧ m.hn ≤ 1099511627776)
  es : m.es.length ≤ 8 ∧ ∀ e ∈ m.es, rightE e.i e.t e.k e.d.length = true
theorem rightP_ok {m : MsgM} (h : rightP m = true) : OkM m := by
  unfold rightP at h
  rw [Bool.and_eq_true, Bool.and_eq_true, Bool.and_eq_true, Bool.and_eq_true] at h
  obtain ⟨h1, h2, h3, h4, h5⟩ := h
  have h4 := of_decide_eq_true h4
  refine ⟨⟨h4.1, h4.2.1, h4.2.2.1⟩, of_decide_eq_true h1, of_decide_eq_true h2, ?_⟩
  rcases of_decide_eq_true h3 with h | h
  · have : m.es = [] := List.eq_nil_of_length_eq_zero h
    rw [this]
    exact ⟨by simp, fun e he => by cases he⟩
  · exact ⟨h.2.1, of_decide_eq_true h.2.2⟩
theorem rightE_ok {i t k : Int} {n : Nat} (h : rightE i t k n = true) : (1 ≤ i ∧ i ≤ 1099511627776) ∧ (0 ≤ t ∧ t ≤ 1099511627776) ∧ (0 ≤ k ∧ k ≤ 7) ∧ n ≤ 4096 := of_decide_eq_true h
theorem int_leM {x : Int} (h : -1099511627776 ≤ x ∧ x ≤ 1099511627776) : (FieldM.int x).length ≤ 9 := int_le (by omega) (by omega)
theorem encS_le {w : World} {i t : Int} {AV AL AD : Option Addr} {vs ls : List Int} {ds : List UInt8} (h : RdS w AV AL AD vs ls ds) (hr : rightS i t vs ls ds = true) : (encS i t vs ls ds).length ≤ 200000 := by
  unfold rightS numS at hr
  rw [Bool.and_eq_true] at hr
  have hn := of_decide_eq_true hr.1
  have hg := hr.2
  unfold groupS at hg
  rw [Bool.and_eq_true, Bool.and_eq_true, Bool.and_eq_true] at hg
  have q1 := h.vl
  have q2 := h.ll
  have h1 := encL_le (risesF_pos vs 0 (by omega) hg.1.1.1) q1
  have h2 := encL_le (risesF_pos ls 0 (by omega) hg.1.1.2) q2
  have h3 := text_le (ts := ds) (by omega)
  have h4 := num_le9 (n := i.toNat) (by omega)
  have h5 := num_le9 (n := t.toNat) (by omega)
  have e : encS i t vs ls ds = (((FieldM.num i.toNat ++ FieldM.num t.toNat) ++ encL vs) ++ encL ls) ++ FieldM.text ds := by
    unfold encS encL
    simp [List.append_assoc]
  rw [e, List.length_append, List.length_append, List.length_append, List.length_append]
  omega
theorem OkM.z1 {m : MsgM} (h : OkM m) : ∀ z ∈ [m.kd, m.fr, m.to, m.tm], 0 ≤ z ∧ z ≤ 1099511627776 := fun z hz => by
  have h1 := h.nd
  have h2 : 0 ≤ m.tm ∧ m.tm ≤ 1099511627776 := h.nu.1
  simp only [List.mem_cons, List.not_mem_nil, or_false] at hz
  omega
theorem yI_le (b : Bool) : 0 ≤ yI b ∧ yI b ≤ 1 := by
  unfold yI
  cases b <;> simp
theorem OkM.z2 {m : MsgM} (h : OkM m) : ∀ z ∈ [m.lt, yI m.ys, m.cm], 0 ≤ z ∧ z ≤ 1099511627776 := fun z hz => by
  have h2 : 0 ≤ m.lt ∧ m.lt ≤ 1099511627776 := h.nu.2.1
  have h3 : 0 ≤ m.cm ∧ m.cm ≤ 1099511627776 := h.nu.2.2.1
  have h4 := yI_le m.ys
  simp only [List.mem_cons, List.not_mem_nil, or_false] at hz
  omega
theorem OkM.z3 {m : MsgM} (h : OkM m) : ∀ z ∈ [m.rd, (m.es.length : Int)], 0 ≤ z ∧ z ≤ 1099511627776 := fun z hz => by
  have h2 : 0 ≤ m.rd ∧ m.rd ≤ 1099511627776 := h.nu.2.2.2
  have h3 := h.es.1
  simp only [List.mem_cons, List.not_mem_nil, or_false] at hz
  omega
theorem en_z {e : En} (h : rightE e.i e.t e.k e.d.length = true) : ∀ z ∈ [e.i, e.t, e.k], 0 ≤ z ∧ z ≤ 1099511627776 := fun z hz => by
  have h := rightE_ok h
  simp only [List.mem_cons, List.not_mem_nil, or_false] at hz
  omega
theorem encE_le {e : En} (h : rightE e.i e.t e.k e.d.length = true) : (encE e).length ≤ 4133 := by
  have h1 := nz_le (en_z h)
  have h2 := rightE_ok h
  have h3 := text_le (ts := e.d) (by omega)
  simp only [List.length_cons, List.length_nil] at h1
  unfold encE
  rw [List.length_append]
  omega
theorem encEs_le : ∀ (l : List En), (∀ e ∈ l, rightE e.i e.t e.k e.d.length = true) → (l.flatMap encE).length ≤ 4133 * l.length
  | [], _ => by simp
  | e :: l, h => by
    have h1 := encE_le (h e (by simp))
    have h2 := encEs_le l (fun x hx => h x (by simp [hx]))
    rw [List.flatMap_cons, List.length_append, List.length_cons]
    omega
theorem OkM.head_le {m : MsgM} (h : OkM m) : (headM m).length ≤ 99 := by
  have h1 := nz_le h.z1
  have h2 := nz_le h.z2
  have h3 := nz_le h.z3
  have h4 := int_leM h.sg.1
  have h5 := int_leM h.sg.2
  simp only [List.length_cons, List.length_nil] at h1 h2 h3
  unfold headM
  rw [List.length_append, List.length_append, List.length_append, List.length_append]
  omega
/-- while a message is encoded: w: the call's world; w3: the one in which the buffer's cell was made -/
structure EncM (w w3 : World) (m : MsgM) (bm p : Nat) (bs : List UInt8) (wk : World) : Prop where
  box : Blk wk bm 30 (mcells m)
  buf : Buf wk p bs
  lt : bm < p
  low : w.heap.size ≤ bm
  frm : Fresh w wk
  fp : Frm (fun k => p ≤ k) w3 wk
theorem EncM.fresh {w w3 wk w' : World} {m : MsgM} {bm p : Nat} {bs : List UInt8} (h : EncM w w3 m bm p bs wk) (F : Fresh wk w') : EncM w w3 m bm p bs w' := ⟨h.box.frm F (fun f => f), h.buf.fresh F, h.lt, h.low, h.frm.trans F, h.fp.trans F.frm⟩
theorem EncM.wrote {w w3 wk w' : World} {m : MsgM} {bm p : Nat} {bs cs : List UInt8} (h : EncM w w3 m bm p bs wk) (F : Wrote wk p cs w') : EncM w w3 m bm p cs w' :=
  ⟨h.box.frm F.frm (fun e => by have := h.lt; omega), F.buf, h.lt, h.low, h.frm.trans' F.frm (fun k hk e => by have := h.lt; have := h.low; omega), h.fp.trans F.frm⟩
/-- what could be read ahead of the buffer -/
theorem EncM.rd {w w3 wk : World} {m : MsgM} {bm p : Nat} {bs : List UInt8} (h : EncM w w3 m bm p bs wk) (hp : p = w3.heap.size) {A : Option Addr} {xs : List Value} (hr : Rd w3 w3.heap.size A xs) : Rd wk wk.heap.size A xs :=
  (hr.frm (S := fun k => p ≤ k) (Nat.le_refl _) h.fp (fun q _ hq e => by omega)).more h.fp.size
def MPost (w w3 : World) (m : MsgM) (bm p : Nat) (bs : List UInt8) (wk : World) (e : Ending) (w' : World) : Prop := e = .returned (.tuple #[]) ∧ EncM w w3 m bm p bs w' ∧ Keep wk w'
theorem EncM.nums {w w3 wk : World} {m : MsgM} {bm p : Nat} {bs : List UInt8} (h : EncM w w3 m bm p bs wk) (zs : List Int) (n c : Nat) (hn : n = zs.length) (hz : ∀ z ∈ zs, 0 ≤ z ∧ z ≤ 1099511627776) (hnl : zs.length ≤ 100) (hl : bs.length ≤ 1000000000000) :
    Calls Try.prog 36 #[.slice (some ⟨wk.heap.size, 0, none⟩) n c, .pointer (some ⟨p, 0, none⟩)] (wk.alloc (.cells (ivs zs).toArray 3)) fun e w' => MPost w w3 m bm p (bs ++ nz zs) wk e w' := by
  have e : n = (zs.map Int.toNat).length := by rw [hn, List.length_map]
  subst e
  rw [← ivs_toNat hz]
  have F := (Frm.refl (fun _ => False) wk).alloc (.cells ((zs.map Int.toNat).map fun n : Nat => Value.int .i64 (n : Int)).toArray 3)
  have h2 := h.fresh F
  refine (numbersC_any _ p wk.heap.size c bs (zs.map Int.toNat) (fun n hn => by
    obtain ⟨z, hz', rfl⟩ := List.mem_map.1 hn
    have := hz z hz'
    omega) (by rw [List.length_map]; omega) (Blk.new wk _ _) h2.buf hl).mono ?_
  rintro e w' ⟨rfl, hw⟩
  exact ⟨rfl, h2.wrote hw, (Keep.fresh F).trans hw.keep⟩
theorem EncM.signed {w w3 wk : World} {m : MsgM} {bm p : Nat} {bs : List UInt8} (h : EncM w w3 m bm p bs wk) (x : Int) (hx : -1099511627776 ≤ x ∧ x ≤ 1099511627776) (hl : bs.length ≤ 1000000000000) :
    Calls Try.prog 38 #[.int .i64 x, .pointer (some ⟨p, 0, none⟩)] wk fun e w' => MPost w w3 m bm p (bs ++ FieldM.int x) wk e w' := by
  refine (signedC_any wk p bs x (by omega) (by omega) h.buf hl).mono ?_
  rintro e w' ⟨rfl, hw⟩
  exact ⟨rfl, h.wrote hw, hw.keep⟩
theorem EncM.text {w w3 wk : World} {m : MsgM} {bm p : Nat} {bs : List UInt8} (h : EncM w w3 m bm p bs wk) (A : Option Addr) (n cap : Nat) (ts : List UInt8) (hn : n = ts.length) (ht : Rd wk wk.heap.size A (ts.map bv)) (htl : ts.length ≤ 1000000000000) (hl : bs.length ≤ 1000000000000) :
    Calls Try.prog 40 #[.slice A n cap, .pointer (some ⟨p, 0, none⟩)] wk fun e w' => MPost w w3 m bm p (bs ++ FieldM.text ts) wk e w' := by
  subst hn
  refine (textC_any wk p bs A cap ts ht htl h.buf hl).mono ?_
  rintro e w' ⟨rfl, hw⟩
  exact ⟨rfl, h.wrote hw, hw.keep⟩
def EncOut (w : World) (bs : List UInt8) (e : Ending) (w' : World) : Prop :=
  (bs.length ≤ 65536 ∧ ∃ v, e = .returned (.tuple #[v, .int .i64 0]) ∧ Sl w' w.heap.size 5 1 v (bs.length + 8) ((Rc.rec bs).map bv) ∧ Fresh w w') ∨ (65536 < bs.length ∧ e = .returned (.tuple #[.slice none 0 0, .int .i64 3]) ∧ Fresh w w')
def EncMPost (w : World) (m : MsgM) (e : Ending) (w' : World) : Prop :=
  (rightD m = false ∧ e = .returned (.tuple #[.slice none 0 0, .int .i64 1]) ∧ Fresh w w') ∨ (rightD m = true ∧ EncOut w (bodyM m) e w')

set_option maxHeartbeats 16000000 in
theorem netEncode_any (w : World) (m : MsgM) (h : RdM w m) : Calls Try.prog 12 #[.agg (mcells m)] w fun e w' => EncMPost w m e w' := by
  have hmf : ∀ (fn : Fn) (first cap : Array Value) (w : World), (Instr.makeFunc fn first cap).run Try.prog w = .ok (.func fn first cap) w := fun _ _ _ _ => rfl
  obtain ⟨W, hW⟩ : ∃ W, w.alloc (.cells (mcells m) 30) = W := ⟨_, rfl⟩
  have HF : Hid (Fresh w W) := Lib.hid (by rw [← hW]; exact (Frm.refl _ w).alloc _)
  have BX : Hid (Blk W w.heap.size 30 (mcells m)) := Lib.hid (by rw [← hW]; exact Blk.new w _ _)
  have HH := Lib.hid h
  have HR := Lib.hid (right_any W m (h.fresh HF.out))
  obtain ⟨ys, hys⟩ : ∃ y, y = m.ys := ⟨_, rfl⟩
  have HYS := Lib.hid hys
  have HMC : Hid (mcells m = #[.int .i64 m.kd, .int .i64 m.fr, .int .i64 m.to, .int .i64 m.tm, .int .i64 m.ix, .int .i64 m.lt, .bool ys, .int .i64 m.cm, .int .i64 m.hn, .int .i64 m.rd, .slice m.AE m.es.length m.ce, .int .i64 m.si, .int .i64 m.st, .slice m.AV m.vs.length m.cv, .slice m.AL m.ls.length m.cl, .slice m.AD m.ds.length m.cd]) := Lib.hid (by rw [hys]; rfl)
  clear hys
  rw [HMC.out] at hW BX HR ⊢
  clear h
  have k0 : W.cell? ⟨w.heap.size, 0, none⟩ = some (.int .i64 m.kd) := BX.out.cell 0
  have k1 : W.cell? ⟨w.heap.size, 1, none⟩ = some (.int .i64 m.fr) := BX.out.cell 1
  have k2 : W.cell? ⟨w.heap.size, 2, none⟩ = some (.int .i64 m.to) := BX.out.cell 2
  have k3 : W.cell? ⟨w.heap.size, 3, none⟩ = some (.int .i64 m.tm) := BX.out.cell 3
  have k4 : W.cell? ⟨w.heap.size, 4, none⟩ = some (.int .i64 m.ix) := BX.out.cell 4
  have k5 : W.cell? ⟨w.heap.size, 5, none⟩ = some (.int .i64 m.lt) := BX.out.cell 5
  have k6 : W.cell? ⟨w.heap.size, 6, none⟩ = some (.bool ys) := BX.out.cell 6
  have k7 : W.cell? ⟨w.heap.size, 7, none⟩ = some (.int .i64 m.cm) := BX.out.cell 7
  have k8 : W.cell? ⟨w.heap.size, 8, none⟩ = some (.int .i64 m.hn) := BX.out.cell 8
  have k9 : W.cell? ⟨w.heap.size, 9, none⟩ = some (.int .i64 m.rd) := BX.out.cell 9
  have k10 : W.cell? ⟨w.heap.size, 10, none⟩ = some (.slice m.AE m.es.length m.ce) := BX.out.cell 10
  have k11 : W.cell? ⟨w.heap.size, 11, none⟩ = some (.int .i64 m.si) := BX.out.cell 11
  have k12 : W.cell? ⟨w.heap.size, 12, none⟩ = some (.int .i64 m.st) := BX.out.cell 12
  have k13 : W.cell? ⟨w.heap.size, 13, none⟩ = some (.slice m.AV m.vs.length m.cv) := BX.out.cell 13
  have k14 : W.cell? ⟨w.heap.size, 14, none⟩ = some (.slice m.AL m.ls.length m.cl) := BX.out.cell 14
  have k15 : W.cell? ⟨w.heap.size, 15, none⟩ = some (.slice m.AD m.ds.length m.cd) := BX.out.cell 15
  cases hrp : rightP m with
  | false =>
    have HRD : Hid (rightD m = false) := Lib.hid (rightD_no hrp)
    rw [hrp] at HR
    clear hrp
    go_enter Try.func12, Try.ntmps12
    go_wp2_with fail
    refine HR.out.mono ?_
    rintro e w1 ⟨rfl, f1⟩
    have HF1 := Lib.hid (HF.out.trans f1)
    clear f1
    go_wp2_with fail
    go_ret2
    exact .inl ⟨HRD.out, rfl, HF1.out⟩
  | true =>
    have HOK := Lib.hid (rightP_ok hrp)
    have HRP := Lib.hid hrp
    rw [hrp] at HR
    clear hrp
    go_enter Try.func12, Try.ntmps12
    go_wp2_with fail
    clear hW k0 k1 k2 k3 k4 k5 k6 k7 k8 k9 k10 k11 k12 k13 k14 k15
    refine HR.out.mono ?_
    rintro e w1 ⟨rfl, f1⟩
    have HF1 := Lib.hid (HF.out.trans f1)
    have HB1 := Lib.hid (BX.out.frm f1 (fun f => f))
    clear f1
    have k11 : w1.cell? ⟨w.heap.size, 11, none⟩ = some (.int .i64 m.si) := HB1.out.cell 11
    have k12 : w1.cell? ⟨w.heap.size, 12, none⟩ = some (.int .i64 m.st) := HB1.out.cell 12
    have k13 : w1.cell? ⟨w.heap.size, 13, none⟩ = some (.slice m.AV m.vs.length m.cv) := HB1.out.cell 13
    have k14 : w1.cell? ⟨w.heap.size, 14, none⟩ = some (.slice m.AL m.ls.length m.cl) := HB1.out.cell 14
    have k15 : w1.cell? ⟨w.heap.size, 15, none⟩ = some (.slice m.AD m.ds.length m.cd) := HB1.out.cell 15
    have HEM : Hid (Calls Try.prog 34 #[.agg #[.int .i64 m.si, .int .i64 m.st, .slice m.AV m.vs.length m.cv, .slice m.AL m.ls.length m.cl, .slice m.AD m.ds.length m.cd]] w1 fun e w' => e = .returned (.bool (empB m)) ∧ Fresh w1 w') := Lib.hid (empty_any w1 m.si m.st m.AV m.AL m.AD m.cv m.cl m.cd m.vs m.ls m.ds (HH.out.fresh HF1.out).sn)
    obtain ⟨eb, heb⟩ : ∃ eb, eb = empB m := ⟨_, rfl⟩
    rw [← heb] at HEM
    have HEB := Lib.hid heb
    clear heb
    go_wp2_with fail
    refine HEM.out.mono ?_
    rintro e w2 ⟨rfl, f2⟩
    have HF2 := Lib.hid (HF1.out.trans f2)
    have HB2 := Lib.hid (HB1.out.frm f2 (fun f => f))
    clear f2 k11 k12 k13 k14 k15
    have k11 : w2.cell? ⟨w.heap.size, 11, none⟩ = some (.int .i64 m.si) := HB2.out.cell 11
    have k12 : w2.cell? ⟨w.heap.size, 12, none⟩ = some (.int .i64 m.st) := HB2.out.cell 12
    have k13 : w2.cell? ⟨w.heap.size, 13, none⟩ = some (.slice m.AV m.vs.length m.cv) := HB2.out.cell 13
    have k14 : w2.cell? ⟨w.heap.size, 14, none⟩ = some (.slice m.AL m.ls.length m.cl) := HB2.out.cell 14
    have k15 : w2.cell? ⟨w.heap.size, 15, none⟩ = some (.slice m.AD m.ds.length m.cd) := HB2.out.cell 15
    go_upto_if 20 with fail
    go_cut [4] from 5 (fun s4 wx => ∃ A c, s4 = .slice A (snapB m).length c ∧ Rd wx wx.heap.size A ((snapB m).map bv) ∧ rightD m = true ∧ (snapB m).length ≤ 200000 ∧ Fresh w2 wx)
    case first =>
      cases eb with
      | true =>
        have HSB : Hid (snapB m = []) := Lib.hid (by unfold snapB; rw [if_pos HEB.out.symm])
        have HRD : Hid (rightD m = true) := Lib.hid (by unfold rightD; rw [HRP.out, ← HEB.out]; rfl)
        go_wp2_with fail
        go_meet
        refine ⟨none, 0, ?_, ?_, HRD.out, ?_, Frm.refl _ _⟩
        · rw [HSB.out]; rfl
        · rw [HSB.out]; exact Rd.nil _ _ _
        · rw [HSB.out]; exact Nat.zero_le _
      | false =>
        have HSB : Hid (snapB m = encS m.si m.st m.vs m.ls m.ds) := Lib.hid (by unfold snapB; rw [if_neg (by rw [← HEB.out]; simp)])
        cases hrs : rightS m.si m.st m.vs m.ls m.ds with
        | false =>
          have HRD : Hid (rightD m = false) := Lib.hid (by unfold rightD; rw [← HEB.out, hrs]; simp)
          have HK := Lib.hid (keepEncode_no w2 m.si m.st m.AV m.AL m.AD m.cv m.cl m.cd m.vs m.ls m.ds (HH.out.fresh HF2.out).sn hrs)
          clear hrs
          go_wp2_with fail
          refine HK.out.mono ?_
          rintro e w3 ⟨rfl, f3⟩
          have HF3 := Lib.hid (HF2.out.trans f3)
          clear f3
          go_wp2_with fail
          go_ret2
          exact .inl ⟨HRD.out, rfl, HF3.out⟩
        | true =>
          have HRD : Hid (rightD m = true) := Lib.hid (by unfold rightD; rw [← HEB.out, hrs, HRP.out]; rfl)
          have HK := Lib.hid (keepEncode_yes w2 m.si m.st m.AV m.AL m.AD m.cv m.cl m.cd m.vs m.ls m.ds (HH.out.fresh HF2.out).sn hrs)
          have HSL : Hid ((encS m.si m.st m.vs m.ls m.ds).length ≤ 200000) := Lib.hid (encS_le (HH.out.sn) hrs)
          clear hrs
          go_wp2_with fail
          refine HK.out.mono ?_
          rintro e w3 ⟨v, rfl, hs, f3⟩
          obtain ⟨A, c, rfl, _⟩ := hs.shape
          have HS3 := Lib.hid hs
          have HF3 := Lib.hid f3
          clear hs f3
          go_wp2_with fail
          go_meet
          refine ⟨A, c, ?_, ?_, HRD.out, ?_, HF3.out⟩
          · rw [HSB.out]
          · rw [HSB.out]; exact HS3.out.rd
          · rw [HSB.out]; exact HSL.out
    case rest =>
      obtain ⟨A, c, rfl, hrd, hrD, hsl, hf⟩ := hcut
      have HRD := Lib.hid hrD
      have HF3 := Lib.hid (HF2.out.trans hf)
      have HB3 := Lib.hid (HB2.out.frm hf (fun f => f))
      have HSR := Lib.hid hrd
      obtain ⟨ss, hss⟩ : ∃ ss, ss = snapB m := ⟨_, rfl⟩
      rw [← hss] at HSR hsl ⊢
      have HSS := Lib.hid hss
      clear hrD hf hrd hss k11 k12 k13 k14 k15
      obtain ⟨w3, hw3⟩ : ∃ w3, wc = w3 := ⟨_, rfl⟩
      rw [hw3] at HF3 HB3 HSR ⊢
      clear hw3
      obtain ⟨W4, hW4⟩ : ∃ W4, w3.alloc (.cells #[.slice none 0 0] 26) = W4 := ⟨_, rfl⟩
      obtain ⟨p, hp⟩ : ∃ p, p = w3.heap.size := ⟨_, rfl⟩
      have HP := Lib.hid hp
      obtain ⟨B4, hB4⟩ : ∃ B : List UInt8, B = [] := ⟨_, rfl⟩
      have HB4 := Lib.hid hB4
      have bl4 : B4.length ≤ 0 := by rw [hB4]; exact Nat.le_refl _
      have HE4 : Hid (EncM w w3 m w.heap.size p B4 W4) := Lib.hid (by
        rw [← hW4, hp, hB4]
        exact ⟨by rw [HMC.out]; exact HB3.out.alloc _, ⟨_, Blk.new w3 _ _, Sl.nil _ _ _ _⟩, HB3.out.lt, Nat.le_refl _, HF3.out.alloc _, (Frm.refl _ w3).alloc _⟩)
      have HBE : Hid (∀ (bs : List UInt8) (wk : World), EncM w w3 m w.heap.size p bs wk → Blk wk w.heap.size 30 #[.int .i64 m.kd, .int .i64 m.fr, .int .i64 m.to, .int .i64 m.tm, .int .i64 m.ix, .int .i64 m.lt, .bool ys, .int .i64 m.cm, .int .i64 m.hn, .int .i64 m.rd, .slice m.AE m.es.length m.ce, .int .i64 m.si, .int .i64 m.st, .slice m.AV m.vs.length m.cv, .slice m.AL m.ls.length m.cl, .slice m.AD m.ds.length m.cd]) := Lib.hid (fun bs wk h => by rw [← HMC.out]; exact h.box)
      have hpb : w.heap.size < p := HE4.out.lt
      clear hB4
      have k0 : W4.cell? ⟨w.heap.size, 0, none⟩ = some (.int .i64 m.kd) := (HBE.out _ _ HE4.out).cell 0
      have k1 : W4.cell? ⟨w.heap.size, 1, none⟩ = some (.int .i64 m.fr) := (HBE.out _ _ HE4.out).cell 1
      have k2 : W4.cell? ⟨w.heap.size, 2, none⟩ = some (.int .i64 m.to) := (HBE.out _ _ HE4.out).cell 2
      have k3 : W4.cell? ⟨w.heap.size, 3, none⟩ = some (.int .i64 m.tm) := (HBE.out _ _ HE4.out).cell 3
      have k6 : W4.cell? ⟨w.heap.size, 6, none⟩ = some (.bool ys) := (HBE.out _ _ HE4.out).cell 6
      go_upto_if 35 with fail
      rw [← hp]
      first | rw [hW4] | skip
      clear hp hW4
      go_cut [11] from 36 (fun s11 wx => s11 = .int .i64 (yI ys) ∧ wx = W4)
      case first =>
        cases ys with
        | true =>
          go_wp2_with fail
          go_meet
          exact ⟨rfl, rfl⟩
        | false =>
          go_wp2_with fail
          go_meet
          exact ⟨rfl, rfl⟩
      case rest =>
        obtain ⟨rfl, hwc⟩ := hcut
        rw [hwc]
        clear hwc k6
        obtain ⟨yy, hyy⟩ : ∃ y, y = yI m.ys := ⟨_, rfl⟩
        rw [HYS.out]
        have HZ2 := Lib.hid HOK.out.z2
        have HYY := Lib.hid hyy
        rw [← hyy] at HZ2 ⊢
        clear hyy
        go_wp2_with fail
        refine (HE4.out.nums [m.kd, m.fr, m.to, m.tm] 4 4 rfl HOK.out.z1 (by simp) (by omega)).mono ?_
        rintro e w5 ⟨rfl, h5, _⟩
        obtain ⟨B5, hB⟩ : ∃ B, B = B4 ++ nz [m.kd, m.fr, m.to, m.tm] := ⟨_, rfl⟩
        rw [← hB] at h5
        have bl5 : B5.length ≤ 36 := by
          have h := nz_le HOK.out.z1
          try simp only [List.length_cons, List.length_nil] at h
          rw [hB, List.length_append]
          omega
        have HB5 := Lib.hid hB
        have HE5 := Lib.hid h5
        have k4_5 : w5.cell? ⟨w.heap.size, 4, none⟩ = some (.int .i64 m.ix) := (HBE.out _ _ h5).cell 4
        clear h5 hB k0 k1 k2 k3
        go_wp2_with fail
        refine (HE5.out.signed m.ix HOK.out.sg.1 (by omega)).mono ?_
        rintro e w6 ⟨rfl, h6, _⟩
        obtain ⟨B6, hB⟩ : ∃ B, B = B5 ++ FieldM.int m.ix := ⟨_, rfl⟩
        rw [← hB] at h6
        have bl6 : B6.length ≤ 45 := by
          have h := int_leM HOK.out.sg.1
          try simp only [List.length_cons, List.length_nil] at h
          rw [hB, List.length_append]
          omega
        have HB6 := Lib.hid hB
        have HE6 := Lib.hid h6
        have k5_6 : w6.cell? ⟨w.heap.size, 5, none⟩ = some (.int .i64 m.lt) := (HBE.out _ _ h6).cell 5
        have k7_6 : w6.cell? ⟨w.heap.size, 7, none⟩ = some (.int .i64 m.cm) := (HBE.out _ _ h6).cell 7
        clear h6 hB k4_5
        go_wp2_with fail
        refine (HE6.out.nums [m.lt, yy, m.cm] 3 3 rfl HZ2.out (by simp) (by omega)).mono ?_
        rintro e w7 ⟨rfl, h7, _⟩
        obtain ⟨B7, hB⟩ : ∃ B, B = B6 ++ nz [m.lt, yy, m.cm] := ⟨_, rfl⟩
        rw [← hB] at h7
        have bl7 : B7.length ≤ 72 := by
          have h := nz_le HZ2.out
          try simp only [List.length_cons, List.length_nil] at h
          rw [hB, List.length_append]
          omega
        have HB7 := Lib.hid hB
        have HE7 := Lib.hid h7
        have k8_7 : w7.cell? ⟨w.heap.size, 8, none⟩ = some (.int .i64 m.hn) := (HBE.out _ _ h7).cell 8
        clear h7 hB k5_6 k7_6
        go_wp2_with fail
        refine (HE7.out.signed m.hn HOK.out.sg.2 (by omega)).mono ?_
        rintro e w8 ⟨rfl, h8, _⟩
        obtain ⟨B8, hB⟩ : ∃ B, B = B7 ++ FieldM.int m.hn := ⟨_, rfl⟩
        rw [← hB] at h8
        have bl8 : B8.length ≤ 81 := by
          have h := int_leM HOK.out.sg.2
          try simp only [List.length_cons, List.length_nil] at h
          rw [hB, List.length_append]
          omega
        have HB8 := Lib.hid hB
        have HE8 := Lib.hid h8
        have k9_8 : w8.cell? ⟨w.heap.size, 9, none⟩ = some (.int .i64 m.rd) := (HBE.out _ _ h8).cell 9
        have k10_8 : w8.cell? ⟨w.heap.size, 10, none⟩ = some (.slice m.AE m.es.length m.ce) := (HBE.out _ _ h8).cell 10
        clear h8 hB k8_7
        go_wp2_with fail
        refine (HE8.out.nums [m.rd, (m.es.length : Int)] 2 2 rfl HOK.out.z3 (by simp) (by omega)).mono ?_
        rintro e w9 ⟨rfl, h9, _⟩
        obtain ⟨B9, hB⟩ : ∃ B, B = B8 ++ nz [m.rd, (m.es.length : Int)] := ⟨_, rfl⟩
        rw [← hB] at h9
        have bl9 : B9.length ≤ 200 := by
          have h := nz_le HOK.out.z3
          try simp only [List.length_cons, List.length_nil] at h
          rw [hB, List.length_append]
          omega
        have HB9 := Lib.hid hB
        have HE9 := Lib.hid h9
        have k10_9 : w9.cell? ⟨w.heap.size, 10, none⟩ = some (.slice m.AE m.es.length m.ce) := (HBE.out _ _ h9).cell 10
        clear h9 hB k9_8 k10_8
        go_wp2_with fail
        obtain ⟨B, hB⟩ : ∃ B, B = B9 := ⟨_, rfl⟩
        have HB : Hid (B = headM m) := Lib.hid (by
          rw [hB, HB9.out, HB8.out, HB7.out, HB6.out, HB5.out, HB4.out, List.nil_append, HYY.out]
          rfl)
        rw [← hB] at HE9
        have bl : B.length ≤ 200 := by rw [hB]; exact bl9
        have hE8 := HOK.out.es.1
        clear hB HB9 HB8 HB7 HB6 HB5 HB4 HE8 HE7 HE6 HE5 HE4 bl4 bl5 bl6 bl7 bl8 bl9
        go_loopw [74] (fun v74 wr => ∃ (i : Nat) (Q : List UInt8), i ≤ m.es.length ∧ v74 = .int .i64 (i : Int) ∧ Q = B ++ (m.es.take i).flatMap encE ∧ EncM w w3 m w.heap.size p Q wr) (fun v74 _ => m.es.length - (intOf v74).toNat)
        case atStart => exact ⟨0, B, by omega, rfl, by simp, HE9.out⟩
        case round =>
          obtain ⟨i, Q, hi, rfl, hQ, he⟩ := hrel
          have hi0 : (0 : Int) ≤ (i : Int) := by omega
          have HQ := Lib.hid hQ
          have HE := Lib.hid he
          have hQl : Q.length ≤ 200 + 4133 * 8 := by
            have := encEs_le (m.es.take i) (fun e he => HOK.out.es.2 e (List.mem_of_mem_take he))
            have h2 : (m.es.take i).length ≤ 8 := by rw [List.length_take]; omega
            rw [hQ, List.length_append]
            omega
          clear hQ he
          by_cases hlt : i < m.es.length
          · have hlti : (i : Int) < (m.es.length : Int) := by omega
            obtain ⟨b, o, hAE, hbb, c0, c1, c2, c3⟩ := four_at (HH.out.fresh HE.out.frm).re hlt
            have HRX := Lib.hid (HH.out.rd _ (List.getElem_mem hlt))
            have HRE := Lib.hid (HOK.out.es.2 _ (List.getElem_mem hlt))
            have HTK := Lib.hid (take_encE m.es hlt)
            rw [hAE]
            generalize m.es[i] = x at c0 c1 c2 c3 HRX HRE HTK
            have hx := rightE_ok HRE.out
            obtain ⟨W5, hW5⟩ : ∃ W5, wr.alloc (.cells #[.int .i64 x.i, .int .i64 x.t, .int .i64 x.k, .slice x.A x.d.length x.c] 70) = W5 := ⟨_, rfl⟩
            have HE5 : Hid (EncM w w3 m w.heap.size p Q W5) := Lib.hid (by rw [← hW5]; exact HE.out.fresh ((Frm.refl _ wr).alloc _))
            have HX5 : Hid (Blk W5 wr.heap.size 70 #[.int .i64 x.i, .int .i64 x.t, .int .i64 x.k, .slice x.A x.d.length x.c]) := Lib.hid (by rw [← hW5]; exact Blk.new wr _ _)
            have d0 : W5.cell? ⟨wr.heap.size, 0, none⟩ = some (.int .i64 x.i) := HX5.out.cell 0
            have d1 : W5.cell? ⟨wr.heap.size, 1, none⟩ = some (.int .i64 x.t) := HX5.out.cell 1
            have d2 : W5.cell? ⟨wr.heap.size, 2, none⟩ = some (.int .i64 x.k) := HX5.out.cell 2
            clear hAE hx
            go_wp2_with fail
            refine (HE5.out.nums [x.i, x.t, x.k] 3 3 rfl (en_z HRE.out) (by simp) (by omega)).mono ?_
            rintro e w6 ⟨rfl, h6, kp6⟩
            have HE6 := Lib.hid h6
            have HX6 := Lib.hid (kp6 _ _ _ (by decide) (by decide) HX5.out)
            have d3 : w6.cell? ⟨wr.heap.size, 3, none⟩ = some (.slice x.A x.d.length x.c) := HX6.out.cell 3
            have bl6 := nz_le (en_z HRE.out)
            simp only [List.length_cons, List.length_nil] at bl6
            have hx := rightE_ok HRE.out
            clear h6 kp6 d0 d1 d2 hW5
            go_wp2_with fail
            refine (HE6.out.text x.A x.d.length x.c x.d rfl ((HRX.out.fresh (Nat.le_refl _) HE6.out.frm).more HE6.out.frm.size) (by omega) (by rw [List.length_append]; omega)).mono ?_
            rintro e w7 ⟨rfl, h7, _⟩
            have HE7 := Lib.hid h7
            clear h7 hx
            go_wp2_with fail
            go_roundw
            case rel => exact ⟨i + 1, _, by omega, by go_num, by rw [HTK.out, ← List.append_assoc, ← HQ.out]; unfold encE; rw [List.append_assoc], HE7.out⟩
            case measure => simp [intOf]; omega
          · obtain rfl : i = m.es.length := by omega
            have hlti : ¬ (m.es.length : Int) < (m.es.length : Int) := by omega
            rw [List.take_length] at HQ
            go_wp2_with fail
            refine (HE.out.text A ss.length c ss rfl (HE.out.rd HP.out HSR.out) (by omega) (by omega)).mono ?_
            rintro e w10 ⟨rfl, h10, _⟩
            have HE10 := Lib.hid h10
            obtain ⟨v, hb, hs⟩ := h10.buf
            obtain ⟨A10, cap, rfl, hcl, hcm, _⟩ := hs.shape
            obtain ⟨F, hF⟩ : ∃ F, F = Q ++ FieldM.text ss := ⟨_, rfl⟩
            rw [← hF] at hs hb
            have HFB : Hid (F = bodyM m) := Lib.hid (by rw [hF, HQ.out, HB.out, HSS.out]; rfl)
            have c10 : w10.cell? ⟨p, 0, none⟩ = some (.slice A10 F.length cap) := hb.cell 0
            have HS := Lib.hid hs
            have HFZ := Lib.hid h10.frm
            clear hs hb h10 hF
            by_cases hfl : F.length ≤ 65536
            · have HPC := Lib.hid (Rc.put_any w10 A10 cap F HS.out.rd hfl)
              unfold Rc.PutPost at HPC
              go_wp2_with fail
              refine HPC.out.mono ?_
              rintro e w11 ⟨v11, rfl, hs11, f11⟩
              have HS11 := Lib.hid hs11
              have HFL := Lib.hid (HFZ.out.trans f11)
              clear hs11 f11
              go_wp2_with fail
              go_ret2
              refine .inr ⟨HRD.out, .inl ⟨by rw [← HFB.out]; exact hfl, _, rfl, ?_, HFL.out⟩⟩
              rw [← HFB.out]
              exact HS11.out.less HFZ.out.size
            · have HPC := Lib.hid (Rc.put_no w10 A10 cap F.length (by omega))
              go_wp2_with fail
              refine HPC.out.mono ?_
              rintro e w11 ⟨rfl, hw11⟩
              rw [← hw11]
              clear hw11
              go_wp2_with fail
              go_ret2
              exact .inr ⟨HRD.out, .inr ⟨by rw [← HFB.out]; omega, rfl, HFZ.out⟩⟩
end Go.Proofs.Ytlceembcehokoaa
namespace Go.Proofs.Ytlceembcehokoaa
open Go.RowKit
set_option linter.unusedVariables false
set_option maxRecDepth 100000

theorem headM_eq {m : MsgM} {n0 n1 n2 n3 n5 n7 n9 : Nat} (h0 : m.kd = n0) (h1 : m.fr = n1) (h2 : m.to = n2) (h3 : m.tm = n3) (h5 : m.lt = n5) (h7 : m.cm = n7) (h9 : m.rd = n9) :
    headM m = ((((((([n0, n1, n2, n3].flatMap FieldM.num ++ FieldM.int m.ix) ++ FieldM.num n5) ++ FieldM.num (yI m.ys).toNat) ++ FieldM.num n7) ++ FieldM.int m.hn) ++ FieldM.num n9) ++ FieldM.num m.es.length) := by
  unfold headM nz
  rw [h0, h1, h2, h3, h5, h7, h9]
  simp [List.append_assoc]
theorem encE_eq {e : En} {a b c : Nat} (h0 : e.i = a) (h1 : e.t = b) (h2 : e.k = c) : encE e = ((FieldM.num a ++ FieldM.num b) ++ FieldM.num c) ++ FieldM.text e.d := by
  unfold encE nz
  rw [h0, h1, h2]
  simp [List.append_assoc]

theorem refEncode_no (w : World) (m : MsgM) (h : RdM w m) (hr : rightD m = false) : Calls Try.prog 13 #[.agg (mcells m)] w fun e w' => EncMPost w m e w' := by
  obtain ⟨W, hW⟩ : ∃ W, w.alloc (.cells (mcells m) 30) = W := ⟨_, rfl⟩
  have HF : Hid (Fresh w W) := Lib.hid (by rw [← hW]; exact (Frm.refl _ w).alloc _)
  have BX : Hid (Blk W w.heap.size 30 (mcells m)) := Lib.hid (by rw [← hW]; exact Blk.new w _ _)
  have HR := Lib.hid (refRight_any W m (h.fresh HF.out))
  rw [hr] at HR
  have HRD := Lib.hid hr
  obtain ⟨ys, hys⟩ : ∃ y, y = m.ys := ⟨_, rfl⟩
  have HYS := Lib.hid hys
  have HMC : Hid (mcells m = #[.int .i64 m.kd, .int .i64 m.fr, .int .i64 m.to, .int .i64 m.tm, .int .i64 m.ix, .int .i64 m.lt, .bool ys, .int .i64 m.cm, .int .i64 m.hn, .int .i64 m.rd, .slice m.AE m.es.length m.ce, .int .i64 m.si, .int .i64 m.st, .slice m.AV m.vs.length m.cv, .slice m.AL m.ls.length m.cl, .slice m.AD m.ds.length m.cd]) := Lib.hid (by rw [hys]; rfl)
  clear hys
  rw [HMC.out] at hW BX HR ⊢
  clear h hr
  have k0 : W.cell? ⟨w.heap.size, 0, none⟩ = some (.int .i64 m.kd) := BX.out.cell 0
  have k1 : W.cell? ⟨w.heap.size, 1, none⟩ = some (.int .i64 m.fr) := BX.out.cell 1
  have k2 : W.cell? ⟨w.heap.size, 2, none⟩ = some (.int .i64 m.to) := BX.out.cell 2
  have k3 : W.cell? ⟨w.heap.size, 3, none⟩ = some (.int .i64 m.tm) := BX.out.cell 3
  have k4 : W.cell? ⟨w.heap.size, 4, none⟩ = some (.int .i64 m.ix) := BX.out.cell 4
  have k5 : W.cell? ⟨w.heap.size, 5, none⟩ = some (.int .i64 m.lt) := BX.out.cell 5
  have k6 : W.cell? ⟨w.heap.size, 6, none⟩ = some (.bool ys) := BX.out.cell 6
  have k7 : W.cell? ⟨w.heap.size, 7, none⟩ = some (.int .i64 m.cm) := BX.out.cell 7
  have k8 : W.cell? ⟨w.heap.size, 8, none⟩ = some (.int .i64 m.hn) := BX.out.cell 8
  have k9 : W.cell? ⟨w.heap.size, 9, none⟩ = some (.int .i64 m.rd) := BX.out.cell 9
  have k10 : W.cell? ⟨w.heap.size, 10, none⟩ = some (.slice m.AE m.es.length m.ce) := BX.out.cell 10
  have k11 : W.cell? ⟨w.heap.size, 11, none⟩ = some (.int .i64 m.si) := BX.out.cell 11
  have k12 : W.cell? ⟨w.heap.size, 12, none⟩ = some (.int .i64 m.st) := BX.out.cell 12
  have k13 : W.cell? ⟨w.heap.size, 13, none⟩ = some (.slice m.AV m.vs.length m.cv) := BX.out.cell 13
  have k14 : W.cell? ⟨w.heap.size, 14, none⟩ = some (.slice m.AL m.ls.length m.cl) := BX.out.cell 14
  have k15 : W.cell? ⟨w.heap.size, 15, none⟩ = some (.slice m.AD m.ds.length m.cd) := BX.out.cell 15
  go_enter Try.func13, Try.ntmps13
  go_wp2_with fail
  refine HR.out.mono ?_
  rintro e w1 ⟨rfl, f1⟩
  have HF1 := Lib.hid (HF.out.trans f1)
  clear f1
  go_wp2_with fail
  go_ret2
  exact .inl ⟨HRD.out, rfl, HF1.out⟩
set_option maxHeartbeats 32000000 in
theorem refEncode_yes (w : World) (m : MsgM) (h : RdM w m) (hr : rightD m = true) : Calls Try.prog 13 #[.agg (mcells m)] w fun e w' => EncMPost w m e w' := by
  obtain ⟨i0, hi, hz0, hz1, hz2⟩ := info_parts info_u8
  obtain ⟨W, hW⟩ : ∃ W, w.alloc (.cells (mcells m) 30) = W := ⟨_, rfl⟩
  have HF : Hid (Fresh w W) := Lib.hid (by rw [← hW]; exact (Frm.refl _ w).alloc _)
  have BX : Hid (Blk W w.heap.size 30 (mcells m)) := Lib.hid (by rw [← hW]; exact Blk.new w _ _)
  have HR := Lib.hid (refRight_any W m (h.fresh HF.out))
  have hrp : rightP m = true := by
    unfold rightD at hr
    rw [Bool.and_eq_true] at hr
    exact hr.1
  rw [hr] at HR
  have HRD := Lib.hid hr
  have ok := rightP_ok hrp
  have HOK := Lib.hid ok
  obtain ⟨g0, g1, g2⟩ := ok.nd
  obtain ⟨g3, g5, g7, g9⟩ := ok.nu
  obtain ⟨g4, g8⟩ := ok.sg
  have gE := ok.es.1
  unfold okN at g3 g5 g7 g9
  have hy := yI_le m.ys
  obtain ⟨n0, q0⟩ := Int.eq_ofNat_of_zero_le (show 0 ≤ m.kd by omega)
  obtain ⟨n1, q1⟩ := Int.eq_ofNat_of_zero_le (show 0 ≤ m.fr by omega)
  obtain ⟨n2, q2⟩ := Int.eq_ofNat_of_zero_le (show 0 ≤ m.to by omega)
  obtain ⟨n3, q3⟩ := Int.eq_ofNat_of_zero_le (show 0 ≤ m.tm by omega)
  obtain ⟨n5, q5⟩ := Int.eq_ofNat_of_zero_le (show 0 ≤ m.lt by omega)
  obtain ⟨ny, q6⟩ := Int.eq_ofNat_of_zero_le (show 0 ≤ yI m.ys by omega)
  obtain ⟨n7, q7⟩ := Int.eq_ofNat_of_zero_le (show 0 ≤ m.cm by omega)
  obtain ⟨n9, q9⟩ := Int.eq_ofNat_of_zero_le (show 0 ≤ m.rd by omega)
  have HHD := Lib.hid (headM_eq q0 q1 q2 q3 q5 q7 q9)
  rw [q6, Int.toNat_natCast] at HHD
  have Q6 := Lib.hid q6
  have HH := Lib.hid (h.fresh HF.out)
  obtain ⟨ys, hys⟩ : ∃ y, y = m.ys := ⟨_, rfl⟩
  have HYS := Lib.hid hys
  have HMC : Hid (mcells m = #[.int .i64 m.kd, .int .i64 m.fr, .int .i64 m.to, .int .i64 m.tm, .int .i64 m.ix, .int .i64 m.lt, .bool ys, .int .i64 m.cm, .int .i64 m.hn, .int .i64 m.rd, .slice m.AE m.es.length m.ce, .int .i64 m.si, .int .i64 m.st, .slice m.AV m.vs.length m.cv, .slice m.AL m.ls.length m.cl, .slice m.AD m.ds.length m.cd]) := Lib.hid (by rw [hys]; rfl)
  clear hys
  rw [HMC.out] at hW BX HR ⊢
  have QH0 := Lib.hid q0
  have QH1 := Lib.hid q1
  have QH2 := Lib.hid q2
  have QH3 := Lib.hid q3
  have QH5 := Lib.hid q5
  have QH7 := Lib.hid q7
  have QH9 := Lib.hid q9
  have GS := Lib.hid (And.intro g4 g8)
  have b0 : (n0 : Int) ≤ 15 := by omega
  have b1 : (n1 : Int) ≤ 15 := by omega
  have b2 : (n2 : Int) ≤ 15 := by omega
  have b3 : (n3 : Int) ≤ 1099511627776 := by omega
  have b5 : (n5 : Int) ≤ 1099511627776 := by omega
  have by' : (ny : Int) ≤ 1 := by omega
  have b7 : (n7 : Int) ≤ 1099511627776 := by omega
  have b9 : (n9 : Int) ≤ 1099511627776 := by omega
  have w5 : IntKind.u64.wrap (n5 : Int) = (n5 : Int) := by rw [IntKind.wrap_u64]; omega
  have wy : IntKind.u64.wrap (ny : Int) = (ny : Int) := by rw [IntKind.wrap_u64]; omega
  have w7 : IntKind.u64.wrap (n7 : Int) = (n7 : Int) := by rw [IntKind.wrap_u64]; omega
  have w9 : IntKind.u64.wrap (n9 : Int) = (n9 : Int) := by rw [IntKind.wrap_u64]; omega
  have wE : IntKind.u64.wrap (m.es.length : Int) = (m.es.length : Int) := by rw [IntKind.wrap_u64]; omega
  have bE : (m.es.length : Int) ≤ 8 := by omega
  clear h hr hrp ok g0 g1 g2 g3 g5 g7 g9 hy q0 q1 q2 q3 q5 q6 q7 q9 g4 g8 gE
  have k0 : W.cell? ⟨w.heap.size, 0, none⟩ = some (.int .i64 m.kd) := BX.out.cell 0
  have k1 : W.cell? ⟨w.heap.size, 1, none⟩ = some (.int .i64 m.fr) := BX.out.cell 1
  have k2 : W.cell? ⟨w.heap.size, 2, none⟩ = some (.int .i64 m.to) := BX.out.cell 2
  have k3 : W.cell? ⟨w.heap.size, 3, none⟩ = some (.int .i64 m.tm) := BX.out.cell 3
  have k4 : W.cell? ⟨w.heap.size, 4, none⟩ = some (.int .i64 m.ix) := BX.out.cell 4
  have k5 : W.cell? ⟨w.heap.size, 5, none⟩ = some (.int .i64 m.lt) := BX.out.cell 5
  have k6 : W.cell? ⟨w.heap.size, 6, none⟩ = some (.bool ys) := BX.out.cell 6
  have k7 : W.cell? ⟨w.heap.size, 7, none⟩ = some (.int .i64 m.cm) := BX.out.cell 7
  have k8 : W.cell? ⟨w.heap.size, 8, none⟩ = some (.int .i64 m.hn) := BX.out.cell 8
  have k9 : W.cell? ⟨w.heap.size, 9, none⟩ = some (.int .i64 m.rd) := BX.out.cell 9
  have k10 : W.cell? ⟨w.heap.size, 10, none⟩ = some (.slice m.AE m.es.length m.ce) := BX.out.cell 10
  have k11 : W.cell? ⟨w.heap.size, 11, none⟩ = some (.int .i64 m.si) := BX.out.cell 11
  have k12 : W.cell? ⟨w.heap.size, 12, none⟩ = some (.int .i64 m.st) := BX.out.cell 12
  have k13 : W.cell? ⟨w.heap.size, 13, none⟩ = some (.slice m.AV m.vs.length m.cv) := BX.out.cell 13
  have k14 : W.cell? ⟨w.heap.size, 14, none⟩ = some (.slice m.AL m.ls.length m.cl) := BX.out.cell 14
  have k15 : W.cell? ⟨w.heap.size, 15, none⟩ = some (.slice m.AD m.ds.length m.cd) := BX.out.cell 15
  go_enter Try.func13, Try.ntmps13
  go_wp2_with fail
  clear hW k0 k1 k2 k3 k4 k5 k6 k7 k8 k9 k10 k11 k12 k13 k14 k15
  refine HR.out.mono ?_
  rintro e w0 ⟨rfl, f0⟩
  have HF0 := Lib.hid f0
  have HB0 := Lib.hid (BX.out.frm f0 (fun f => f))
  clear f0
  have k0 : w0.cell? ⟨w.heap.size, 0, none⟩ = some (.int .i64 (n0 : Int)) := (by rw [← QH0.out]; exact HB0.out.cell 0)
  have k1 : w0.cell? ⟨w.heap.size, 1, none⟩ = some (.int .i64 (n1 : Int)) := (by rw [← QH1.out]; exact HB0.out.cell 1)
  have k2 : w0.cell? ⟨w.heap.size, 2, none⟩ = some (.int .i64 (n2 : Int)) := (by rw [← QH2.out]; exact HB0.out.cell 2)
  have k3 : w0.cell? ⟨w.heap.size, 3, none⟩ = some (.int .i64 (n3 : Int)) := (by rw [← QH3.out]; exact HB0.out.cell 3)
  have k6 : w0.cell? ⟨w.heap.size, 6, none⟩ = some (.bool ys) := HB0.out.cell 6
  go_upto_if 18 with fail
  go_cut [5] from 7 (fun s5 wx => s5 = .int .i64 (ny : Int) ∧ wx = w0)
  case first =>
    cases ys with
    | true =>
      have HNY : Hid (ny = 1) := Lib.hid (by have := Q6.out; rw [← HYS.out] at this; unfold yI at this; simp at this; omega)
      go_wp2_with fail
      go_meet
      exact ⟨by rw [HNY.out]; rfl, rfl⟩
    | false =>
      have HNY : Hid (ny = 0) := Lib.hid (by have := Q6.out; rw [← HYS.out] at this; unfold yI at this; simp at this; omega)
      go_wp2_with fail
      go_meet
      exact ⟨by rw [HNY.out]; rfl, rfl⟩
  case rest =>
    obtain ⟨rfl, hwc⟩ := hcut
    rw [hwc]
    clear hwc
    obtain ⟨W1, hW1⟩ : ∃ W1, w0.alloc (.cells #[.int .i64 (n0 : Int), .int .i64 (n1 : Int), .int .i64 (n2 : Int), .int .i64 (n3 : Int)] 3) = W1 := ⟨_, rfl⟩
    have HFW1 : Hid (Fresh W W1) := Lib.hid (by rw [← hW1]; exact HF0.out.alloc _)
    have BS : Hid (Blk W1 w0.heap.size 3 #[.int .i64 (n0 : Int), .int .i64 (n1 : Int), .int .i64 (n2 : Int), .int .i64 (n3 : Int)]) := Lib.hid (by rw [← hW1]; exact Blk.new w0 _ _)
    go_wp2_with fail
    clear k0 k1 k2 k3 k6
    generalize w0.heap.size = gh at BS ⊢
    go_loopw [6, 8] (fun v6 v8 wr => ∃ (i : Nat) (Q : List UInt8), i ≤ 4 ∧ v8 = .int .i64 (i : Int) ∧ Q = ([n0, n1, n2, n3].take i).flatMap FieldM.num ∧ Q.length ≤ 9 * i ∧ Sl wr W1.heap.size 5 1 v6 Q.length (Q.map bv) ∧ Fresh W1 wr) (fun _ v8 _ => 4 - (intOf v8).toNat)
    case atStart => exact ⟨0, [], by omega, rfl, by simp, by simp, Sl.nil _ _ _ _, Frm.refl _ _⟩
    case round =>
      obtain ⟨i, Q, hi4, rfl, hQ, hQl, hs, hf⟩ := hrel
      have HQ := Lib.hid hQ
      have HS := Lib.hid hs
      have HFR := Lib.hid hf
      have hi0 : (0 : Int) ≤ (i : Int) := by omega
      obtain ⟨AQ, cQ, rfl, _⟩ := hs.shape
      clear hQ hs
      by_cases hlt : i < 4
      · have hlti : (i : Int) < 4 := by omega
        have hx : ∃ x : Nat, (x : Int) ≤ 1099511627776 ∧ wr.cell? ⟨gh, i, none⟩ = some (.int .i64 (x : Int)) ∧ ([n0, n1, n2, n3].take (i + 1)).flatMap FieldM.num = ([n0, n1, n2, n3].take i).flatMap FieldM.num ++ FieldM.num x := by
          have hc := (BS.out.frm HFR.out (fun f => f)).cell i
          have : i = 0 ∨ i = 1 ∨ i = 2 ∨ i = 3 := by omega
          rcases this with rfl | rfl | rfl | rfl
          · exact ⟨n0, by omega, hc, by simp⟩
          · exact ⟨n1, by omega, hc, by simp⟩
          · exact ⟨n2, by omega, hc, by simp⟩
          · exact ⟨n3, by omega, hc, by simp⟩
        obtain ⟨x, hx1, hc, hT⟩ := hx
        have HT := Lib.hid hT
        have hwx : IntKind.u64.wrap (x : Int) = (x : Int) := by rw [IntKind.wrap_u64]; omega
        have hx9 := num_le9 (n := x) (by omega)
        clear hT hf
        go_wp2_with fail
        refine (refNumber_any x (by omega) wr).mono ?_
        rintro e x5 ⟨v5, rfl, hs5, f5⟩
        have HS5 := Lib.hid hs5
        have HSQ5 := Lib.hid (HS.out.fresh f5)
        have HF5 := Lib.hid (HFR.out.trans f5)
        have HW5 := Lib.hid (HFW1.out.trans HF5.out)
        obtain ⟨A5, c5, rfl, _⟩ := hs5.shape
        clear hs5 f5 hc
        go_wp2_with (at_builtin; refine wpList_append_sl _ rfl (.tmp 32) (.tmp 38) _ rfl W1.heap.size 5 i0 _ 1 1 Try.underlying26 hi hz0 hz1 hz2 rfl (by omega) _ Q.length _ rfl HSQ5.out x5.heap.size A5 (FieldM.num x).length c5 ((FieldM.num x).map bv) rfl (by rw [List.length_map, Nat.mul_one]) HS5.out.rd (bv_one _) (by unfold maxLen; omega) (by omega) HF5.out.size ?_; intro v6 x6 hs6 hf6 ha6)
        have HS6 : Hid (Sl x6 W1.heap.size 5 1 v6 (Q ++ FieldM.num x).length ((Q ++ FieldM.num x).map bv)) := Lib.hid (by rw [List.length_append, List.map_append]; exact hs6)
        have HF6 : Hid (Fresh W1 x6) := Lib.hid (HF5.out.trans' hf6 (fun k hk e => by have := (HSQ5.out.lt k e).1; omega))
        clear hs6 hf6 ha6
        go_roundw
        case rel => exact ⟨i + 1, Q ++ FieldM.num x, by omega, by go_num, by rw [HT.out, ← HQ.out], by rw [List.length_append]; omega, HS6.out, HF6.out⟩
        case measure => simp [intOf]; omega
      · obtain rfl : i = 4 := by omega
        obtain ⟨w1, hw1⟩ : ∃ w1, w1 = wr := ⟨_, rfl⟩
        subst hw1
        obtain ⟨B1, hB1⟩ : ∃ B, B = Q := ⟨_, rfl⟩
        subst hB1
        obtain ⟨A1, hA1⟩ : ∃ A, A = AQ := ⟨_, rfl⟩
        subst hA1
        obtain ⟨c1, hc1⟩ : ∃ c, c = cQ := ⟨_, rfl⟩
        subst hc1
        have HS1 : Hid (Sl w1 W.heap.size 5 1 (.slice A1 B1.length c1) B1.length (B1.map bv)) := Lib.hid (HS.out.less HFW1.out.size)
        have HF1 : Hid (Fresh W w1) := Lib.hid (HFW1.out.trans HFR.out)
        have HB1 : Hid (B1 = [n0, n1, n2, n3].flatMap FieldM.num) := Lib.hid (by rw [HQ.out]; rfl)
        have bl1 : B1.length ≤ 36 := by omega
        have HMB : Hid (∀ w', Fresh W w' → Blk w' w.heap.size 30 #[.int .i64 m.kd, .int .i64 m.fr, .int .i64 m.to, .int .i64 m.tm, .int .i64 m.ix, .int .i64 m.lt, .bool ys, .int .i64 m.cm, .int .i64 m.hn, .int .i64 m.rd, .slice m.AE m.es.length m.ce, .int .i64 m.si, .int .i64 m.st, .slice m.AV m.vs.length m.cv, .slice m.AL m.ls.length m.cl, .slice m.AD m.ds.length m.cd]) := Lib.hid (fun w' F => BX.out.frm F (fun f => f))
        clear hf HS HFR HQ HFW1 BS
        have k4_w1 : w1.cell? ⟨w.heap.size, 4, none⟩ = some (.int .i64 m.ix) := (HMB.out _ HF1.out).cell 4
        go_wp2_with fail
        refine (refInt_any m.ix (by have := GS.out.1; omega) (by have := GS.out.1; omega) w1).mono ?_
        rintro e x2 ⟨y2, rfl, hy, fy⟩
        obtain ⟨D2, d2, rfl, _⟩ := hy.shape
        have HY2 := Lib.hid hy
        have HT2 := Lib.hid (HS1.out.fresh fy)
        have HX2 := Lib.hid (HF1.out.trans fy)
        have cl2 := int_leM GS.out.1
        clear hy fy
        go_wp2_with (at_builtin; refine wpList_append_sl _ rfl (.tmp 40) (.tmp 43) _ rfl W.heap.size 5 i0 _ 1 1 Try.underlying26 hi hz0 hz1 hz2 rfl (by omega) _ B1.length _ rfl HT2.out x2.heap.size D2 (FieldM.int m.ix).length d2 ((FieldM.int m.ix).map bv) rfl (by rw [List.length_map, Nat.mul_one]) HY2.out.rd (bv_one _) (by unfold maxLen; omega) (by omega) HX2.out.size ?_; intro v2 w2 hs hf ha; obtain ⟨B2, hB⟩ : ∃ B, B = B1 ++ (FieldM.int m.ix) := ⟨_, rfl⟩; have HB2 := Lib.hid hB; have hs' : Sl w2 W.heap.size 5 1 v2 B2.length (B2.map bv) := (by rw [hB, List.length_append, List.map_append]; exact hs); have bl2 : B2.length ≤ 140 := (by rw [hB, List.length_append]; omega); obtain ⟨A2, c2, rfl, _⟩ := hs'.shape; have HS2 := Lib.hid hs'; have HF2 : Hid (Fresh W w2) := Lib.hid (HX2.out.trans' hf (fun k hk e => by have := (HT2.out.lt k e).1; omega)); have k5_w2 : w2.cell? ⟨w.heap.size, 5, none⟩ = some (.int .i64 (n5 : Int)) := (by rw [← QH5.out]; exact (BX.out.frm HF2.out (fun f => f)).cell 5); clear hB hs hs' hf ha)
        clear k4_w1
        go_wp2_with fail
        refine (refNumber_any n5 (by omega) w2).mono ?_
        rintro e x3 ⟨y3, rfl, hy, fy⟩
        obtain ⟨D3, d3, rfl, _⟩ := hy.shape
        have HY3 := Lib.hid hy
        have HT3 := Lib.hid (HS2.out.fresh fy)
        have HX3 := Lib.hid (HF2.out.trans fy)
        have cl3 := num_le9 (n := n5) (by omega)
        clear hy fy
        go_wp2_with (at_builtin; refine wpList_append_sl _ rfl (.tmp 45) (.tmp 49) _ rfl W.heap.size 5 i0 _ 1 1 Try.underlying26 hi hz0 hz1 hz2 rfl (by omega) _ B2.length _ rfl HT3.out x3.heap.size D3 (FieldM.num n5).length d3 ((FieldM.num n5).map bv) rfl (by rw [List.length_map, Nat.mul_one]) HY3.out.rd (bv_one _) (by unfold maxLen; omega) (by omega) HX3.out.size ?_; intro v3 w3 hs hf ha; obtain ⟨B3, hB⟩ : ∃ B, B = B2 ++ (FieldM.num n5) := ⟨_, rfl⟩; have HB3 := Lib.hid hB; have hs' : Sl w3 W.heap.size 5 1 v3 B3.length (B3.map bv) := (by rw [hB, List.length_append, List.map_append]; exact hs); have bl3 : B3.length ≤ 160 := (by rw [hB, List.length_append]; omega); obtain ⟨A3, c3, rfl, _⟩ := hs'.shape; have HS3 := Lib.hid hs'; have HF3 : Hid (Fresh W w3) := Lib.hid (HX3.out.trans' hf (fun k hk e => by have := (HT3.out.lt k e).1; omega)); clear hB hs hs' hf ha)
        clear k5_w2
        go_wp2_with fail
        refine (refNumber_any ny (by omega) w3).mono ?_
        rintro e x4 ⟨y4, rfl, hy, fy⟩
        obtain ⟨D4, d4, rfl, _⟩ := hy.shape
        have HY4 := Lib.hid hy
        have HT4 := Lib.hid (HS3.out.fresh fy)
        have HX4 := Lib.hid (HF3.out.trans fy)
        have cl4 := num_le9 (n := ny) (by omega)
        clear hy fy
        go_wp2_with (at_builtin; refine wpList_append_sl _ rfl (.tmp 51) (.tmp 54) _ rfl W.heap.size 5 i0 _ 1 1 Try.underlying26 hi hz0 hz1 hz2 rfl (by omega) _ B3.length _ rfl HT4.out x4.heap.size D4 (FieldM.num ny).length d4 ((FieldM.num ny).map bv) rfl (by rw [List.length_map, Nat.mul_one]) HY4.out.rd (bv_one _) (by unfold maxLen; omega) (by omega) HX4.out.size ?_; intro v4 w4 hs hf ha; obtain ⟨B4, hB⟩ : ∃ B, B = B3 ++ (FieldM.num ny) := ⟨_, rfl⟩; have HB4 := Lib.hid hB; have hs' : Sl w4 W.heap.size 5 1 v4 B4.length (B4.map bv) := (by rw [hB, List.length_append, List.map_append]; exact hs); have bl4 : B4.length ≤ 180 := (by rw [hB, List.length_append]; omega); obtain ⟨A4, c4, rfl, _⟩ := hs'.shape; have HS4 := Lib.hid hs'; have HF4 : Hid (Fresh W w4) := Lib.hid (HX4.out.trans' hf (fun k hk e => by have := (HT4.out.lt k e).1; omega)); have k7_w4 : w4.cell? ⟨w.heap.size, 7, none⟩ = some (.int .i64 (n7 : Int)) := (by rw [← QH7.out]; exact (BX.out.frm HF4.out (fun f => f)).cell 7); clear hB hs hs' hf ha)
        go_wp2_with fail
        refine (refNumber_any n7 (by omega) w4).mono ?_
        rintro e x5 ⟨y5, rfl, hy, fy⟩
        obtain ⟨D5, d5, rfl, _⟩ := hy.shape
        have HY5 := Lib.hid hy
        have HT5 := Lib.hid (HS4.out.fresh fy)
        have HX5 := Lib.hid (HF4.out.trans fy)
        have cl5 := num_le9 (n := n7) (by omega)
        clear hy fy
        go_wp2_with (at_builtin; refine wpList_append_sl _ rfl (.tmp 56) (.tmp 60) _ rfl W.heap.size 5 i0 _ 1 1 Try.underlying26 hi hz0 hz1 hz2 rfl (by omega) _ B4.length _ rfl HT5.out x5.heap.size D5 (FieldM.num n7).length d5 ((FieldM.num n7).map bv) rfl (by rw [List.length_map, Nat.mul_one]) HY5.out.rd (bv_one _) (by unfold maxLen; omega) (by omega) HX5.out.size ?_; intro v5 w5 hs hf ha; obtain ⟨B5, hB⟩ : ∃ B, B = B4 ++ (FieldM.num n7) := ⟨_, rfl⟩; have HB5 := Lib.hid hB; have hs' : Sl w5 W.heap.size 5 1 v5 B5.length (B5.map bv) := (by rw [hB, List.length_append, List.map_append]; exact hs); have bl5 : B5.length ≤ 200 := (by rw [hB, List.length_append]; omega); obtain ⟨A5, c5, rfl, _⟩ := hs'.shape; have HS5 := Lib.hid hs'; have HF5 : Hid (Fresh W w5) := Lib.hid (HX5.out.trans' hf (fun k hk e => by have := (HT5.out.lt k e).1; omega)); have k8_w5 : w5.cell? ⟨w.heap.size, 8, none⟩ = some (.int .i64 m.hn) := (BX.out.frm HF5.out (fun f => f)).cell 8; clear hB hs hs' hf ha)
        clear k7_w4
        go_wp2_with fail
        refine (refInt_any m.hn (by have := GS.out.2; omega) (by have := GS.out.2; omega) w5).mono ?_
        rintro e x6 ⟨y6, rfl, hy, fy⟩
        obtain ⟨D6, d6, rfl, _⟩ := hy.shape
        have HY6 := Lib.hid hy
        have HT6 := Lib.hid (HS5.out.fresh fy)
        have HX6 := Lib.hid (HF5.out.trans fy)
        have cl6 := int_leM GS.out.2
        clear hy fy
        go_wp2_with (at_builtin; refine wpList_append_sl _ rfl (.tmp 62) (.tmp 65) _ rfl W.heap.size 5 i0 _ 1 1 Try.underlying26 hi hz0 hz1 hz2 rfl (by omega) _ B5.length _ rfl HT6.out x6.heap.size D6 (FieldM.int m.hn).length d6 ((FieldM.int m.hn).map bv) rfl (by rw [List.length_map, Nat.mul_one]) HY6.out.rd (bv_one _) (by unfold maxLen; omega) (by omega) HX6.out.size ?_; intro v6 w6 hs hf ha; obtain ⟨B6, hB⟩ : ∃ B, B = B5 ++ (FieldM.int m.hn) := ⟨_, rfl⟩; have HB6 := Lib.hid hB; have hs' : Sl w6 W.heap.size 5 1 v6 B6.length (B6.map bv) := (by rw [hB, List.length_append, List.map_append]; exact hs); have bl6 : B6.length ≤ 220 := (by rw [hB, List.length_append]; omega); obtain ⟨A6, c6, rfl, _⟩ := hs'.shape; have HS6 := Lib.hid hs'; have HF6 : Hid (Fresh W w6) := Lib.hid (HX6.out.trans' hf (fun k hk e => by have := (HT6.out.lt k e).1; omega)); have k9_w6 : w6.cell? ⟨w.heap.size, 9, none⟩ = some (.int .i64 (n9 : Int)) := (by rw [← QH9.out]; exact (BX.out.frm HF6.out (fun f => f)).cell 9); clear hB hs hs' hf ha)
        clear k8_w5
        go_wp2_with fail
        refine (refNumber_any n9 (by omega) w6).mono ?_
        rintro e x7 ⟨y7, rfl, hy, fy⟩
        obtain ⟨D7, d7, rfl, _⟩ := hy.shape
        have HY7 := Lib.hid hy
        have HT7 := Lib.hid (HS6.out.fresh fy)
        have HX7 := Lib.hid (HF6.out.trans fy)
        have cl7 := num_le9 (n := n9) (by omega)
        clear hy fy
        go_wp2_with (at_builtin; refine wpList_append_sl _ rfl (.tmp 67) (.tmp 71) _ rfl W.heap.size 5 i0 _ 1 1 Try.underlying26 hi hz0 hz1 hz2 rfl (by omega) _ B6.length _ rfl HT7.out x7.heap.size D7 (FieldM.num n9).length d7 ((FieldM.num n9).map bv) rfl (by rw [List.length_map, Nat.mul_one]) HY7.out.rd (bv_one _) (by unfold maxLen; omega) (by omega) HX7.out.size ?_; intro v7 w7 hs hf ha; obtain ⟨B7, hB⟩ : ∃ B, B = B6 ++ (FieldM.num n9) := ⟨_, rfl⟩; have HB7 := Lib.hid hB; have hs' : Sl w7 W.heap.size 5 1 v7 B7.length (B7.map bv) := (by rw [hB, List.length_append, List.map_append]; exact hs); have bl7 : B7.length ≤ 240 := (by rw [hB, List.length_append]; omega); obtain ⟨A7, c7, rfl, _⟩ := hs'.shape; have HS7 := Lib.hid hs'; have HF7 : Hid (Fresh W w7) := Lib.hid (HX7.out.trans' hf (fun k hk e => by have := (HT7.out.lt k e).1; omega)); have k10_w7 : w7.cell? ⟨w.heap.size, 10, none⟩ = some (.slice m.AE m.es.length m.ce) := (BX.out.frm HF7.out (fun f => f)).cell 10; clear hB hs hs' hf ha)
        clear k9_w6
        go_wp2_with fail
        refine (refNumber_any m.es.length (by omega) w7).mono ?_
        rintro e x8 ⟨y8, rfl, hy, fy⟩
        obtain ⟨D8, d8, rfl, _⟩ := hy.shape
        have HY8 := Lib.hid hy
        have HT8 := Lib.hid (HS7.out.fresh fy)
        have HX8 := Lib.hid (HF7.out.trans fy)
        have cl8 := num_le9 (n := m.es.length) (by omega)
        clear hy fy
        go_wp2_with (at_builtin; refine wpList_append_sl _ rfl (.tmp 73) (.tmp 78) _ rfl W.heap.size 5 i0 _ 1 1 Try.underlying26 hi hz0 hz1 hz2 rfl (by omega) _ B7.length _ rfl HT8.out x8.heap.size D8 (FieldM.num m.es.length).length d8 ((FieldM.num m.es.length).map bv) rfl (by rw [List.length_map, Nat.mul_one]) HY8.out.rd (bv_one _) (by unfold maxLen; omega) (by omega) HX8.out.size ?_; intro v8 w8 hs hf ha; obtain ⟨B8, hB⟩ : ∃ B, B = B7 ++ (FieldM.num m.es.length) := ⟨_, rfl⟩; have HB8 := Lib.hid hB; have hs' : Sl w8 W.heap.size 5 1 v8 B8.length (B8.map bv) := (by rw [hB, List.length_append, List.map_append]; exact hs); have bl8 : B8.length ≤ 260 := (by rw [hB, List.length_append]; omega); obtain ⟨A8, c8, rfl, _⟩ := hs'.shape; have HS8 := Lib.hid hs'; have HF8 : Hid (Fresh W w8) := Lib.hid (HX8.out.trans' hf (fun k hk e => by have := (HT8.out.lt k e).1; omega)); have k10_w8 : w8.cell? ⟨w.heap.size, 10, none⟩ = some (.slice m.AE m.es.length m.ce) := (BX.out.frm HF8.out (fun f => f)).cell 10; clear hB hs hs' hf ha)
        clear k10_w7
        have HHE : Hid (B8 = headM m) := Lib.hid (by rw [HHD.out, HB8.out, HB7.out, HB6.out, HB5.out, HB4.out, HB3.out, HB2.out, HB1.out])
        clear HB8 HB7 HB6 HB5 HB4 HB3 HB2 HB1
        go_wp2_with fail
        go_loopw [6, 9] (fun v6 v9 wr => ∃ (i : Nat) (Q : List UInt8), i ≤ m.es.length ∧ v9 = .int .i64 (i : Int) ∧ Q = B8 ++ (m.es.take i).flatMap encE ∧ Sl wr W.heap.size 5 1 v6 Q.length (Q.map bv) ∧ Fresh W wr) (fun _ v9 _ => m.es.length - (intOf v9).toNat)
        case atStart => exact ⟨0, B8, by omega, rfl, by simp, HS8.out, HF8.out⟩
        case round =>
          clear HS8 HF8 k10_w8
          obtain ⟨i, B9, hi9, rfl, hQ, hs, hf⟩ := hrel
          have hi0 : (0 : Int) ≤ (i : Int) := by omega
          obtain ⟨w9, hw9⟩ : ∃ w9, w9 = wr := ⟨_, rfl⟩
          subst hw9
          obtain ⟨A9, c9, rfl, _⟩ := hs.shape
          have HQ := Lib.hid hQ
          have HS9 := Lib.hid hs
          have HF9 := Lib.hid hf
          have bl9 : B9.length ≤ 300 + 4133 * 8 := by
            have := encEs_le (m.es.take i) (fun e he => HOK.out.es.2 e (List.mem_of_mem_take he))
            have h2 : (m.es.take i).length ≤ 8 := by rw [List.length_take]; omega
            rw [hQ, List.length_append]
            omega
          clear hQ hs hf
          by_cases hlt : i < m.es.length
          · have hlti : (i : Int) < (m.es.length : Int) := by omega
            obtain ⟨b, o, hAE, hbb, c0, c1', c2', c3'⟩ := four_at (HH.out.fresh HF9.out).re hlt
            have HRX := Lib.hid (HH.out.rd _ (List.getElem_mem hlt))
            have HRE := Lib.hid (HOK.out.es.2 _ (List.getElem_mem hlt))
            have HTK := Lib.hid (take_encE m.es hlt)
            have k10_w9 : w9.cell? ⟨w.heap.size, 10, none⟩ = some (.slice m.AE m.es.length m.ce) := (HMB.out _ HF9.out).cell 10
            rw [hAE] at k10_w9
            generalize m.es[i] = x at c0 c1' c2' c3' HRX HRE HTK
            have hx := rightE_ok HRE.out
            obtain ⟨xa, hxa⟩ := Int.eq_ofNat_of_zero_le (show 0 ≤ x.i by omega)
            obtain ⟨xb, hxb⟩ := Int.eq_ofNat_of_zero_le (show 0 ≤ x.t by omega)
            obtain ⟨xc, hxc⟩ := Int.eq_ofNat_of_zero_le (show 0 ≤ x.k by omega)
            have XA := Lib.hid hxa
            have XB := Lib.hid hxb
            have XC := Lib.hid hxc
            have ba : (xa : Int) ≤ 1099511627776 := by omega
            have bb : (xb : Int) ≤ 1099511627776 := by omega
            have bc : (xc : Int) ≤ 1099511627776 := by omega
            have bd : x.d.length ≤ 4096 := hx.2.2.2
            have wa : IntKind.u64.wrap (xa : Int) = (xa : Int) := by rw [IntKind.wrap_u64]; omega
            have wb : IntKind.u64.wrap (xb : Int) = (xb : Int) := by rw [IntKind.wrap_u64]; omega
            have wcc : IntKind.u64.wrap (xc : Int) = (xc : Int) := by rw [IntKind.wrap_u64]; omega
            obtain ⟨w10, hW10⟩ : ∃ W, w9.alloc (.cells #[.int .i64 x.i, .int .i64 x.t, .int .i64 x.k, .slice x.A x.d.length x.c] 70) = W := ⟨_, rfl⟩
            obtain ⟨A10, hA10⟩ : ∃ A, A = A9 := ⟨_, rfl⟩
            subst hA10
            obtain ⟨c10, hc10⟩ : ∃ c, c = c9 := ⟨_, rfl⟩
            subst hc10
            obtain ⟨B10, hB10⟩ : ∃ B, B = B9 := ⟨_, rfl⟩
            subst hB10
            have bl10 := bl9
            have HS10 : Hid (Sl w10 W.heap.size 5 1 (.slice A10 B10.length c10) B10.length (B10.map bv)) := Lib.hid (by rw [← hW10]; exact HS9.out.alloc _)
            have HF10 : Hid (Fresh W w10) := Lib.hid (by rw [← hW10]; exact HF9.out.alloc _)
            have HG10 : Hid (Blk w10 w9.heap.size 70 #[.int .i64 x.i, .int .i64 x.t, .int .i64 x.k, .slice x.A x.d.length x.c]) := Lib.hid (by rw [← hW10]; exact Blk.new w9 _ _)
            have d0_w10 : w10.cell? ⟨w9.heap.size, 0, none⟩ = some (.int .i64 (xa : Int)) := by rw [← XA.out]; exact HG10.out.cell 0
            clear hAE hx hxa hxb hxc HS9 HF9
            go_upto_region 24 with fail
            first | rw [hW10] | skip
            clear hW10 k10_w9 c0 c1' c2' c3'
            generalize w9.heap.size = ge at HG10 d0_w10 ⊢
            go_wp2_with fail
            refine (refNumber_any xa (by omega) w10).mono ?_
            rintro e x11 ⟨y11, rfl, hy, fy⟩
            obtain ⟨D11, d11, rfl, _⟩ := hy.shape
            have HY11 := Lib.hid hy
            have HT11 := Lib.hid (HS10.out.fresh fy)
            have HX11 := Lib.hid (HF10.out.trans fy)
            have cl11 := num_le9 (n := xa) (by omega)
            have HE11 := Lib.hid (HG10.out.frm fy (fun f => f))
            clear hy fy
            go_wp2_with (at_builtin; refine wpList_append_sl _ rfl (.tmp 92) (.tmp 96) _ rfl W.heap.size 5 i0 _ 1 1 Try.underlying26 hi hz0 hz1 hz2 rfl (by omega) _ B10.length _ rfl HT11.out x11.heap.size D11 (FieldM.num xa).length d11 ((FieldM.num xa).map bv) rfl (by rw [List.length_map, Nat.mul_one]) HY11.out.rd (bv_one _) (by unfold maxLen; omega) (by omega) HX11.out.size ?_; intro v11 w11 hs hf ha; obtain ⟨B11, hB⟩ : ∃ B, B = B10 ++ (FieldM.num xa) := ⟨_, rfl⟩; have HB11 := Lib.hid hB; have hs' : Sl w11 W.heap.size 5 1 v11 B11.length (B11.map bv) := (by rw [hB, List.length_append, List.map_append]; exact hs); have bl11 : B11.length ≤ 33400 := (by rw [hB, List.length_append]; omega); obtain ⟨A11, c11, rfl, _⟩ := hs'.shape; have HS11 := Lib.hid hs'; have HF11 : Hid (Fresh W w11) := Lib.hid (HX11.out.trans' hf (fun k hk e => by have := (HT11.out.lt k e).1; omega)); have HG11 := Lib.hid (HE11.out.frm hf (fun e => HT11.out.apart HE11.out (by decide) e)); have d1_w11 : w11.cell? ⟨ge, 1, none⟩ = some (.int .i64 (xb : Int)) := (by rw [← XB.out]; exact HG11.out.cell 1); clear hB hs hs' hf ha)
            clear d0_w10
            go_wp2_with fail
            refine (refNumber_any xb (by omega) w11).mono ?_
            rintro e x12 ⟨y12, rfl, hy, fy⟩
            obtain ⟨D12, d12, rfl, _⟩ := hy.shape
            have HY12 := Lib.hid hy
            have HT12 := Lib.hid (HS11.out.fresh fy)
            have HX12 := Lib.hid (HF11.out.trans fy)
            have cl12 := num_le9 (n := xb) (by omega)
            have HE12 := Lib.hid (HG11.out.frm fy (fun f => f))
            clear hy fy
            go_wp2_with (at_builtin; refine wpList_append_sl _ rfl (.tmp 98) (.tmp 102) _ rfl W.heap.size 5 i0 _ 1 1 Try.underlying26 hi hz0 hz1 hz2 rfl (by omega) _ B11.length _ rfl HT12.out x12.heap.size D12 (FieldM.num xb).length d12 ((FieldM.num xb).map bv) rfl (by rw [List.length_map, Nat.mul_one]) HY12.out.rd (bv_one _) (by unfold maxLen; omega) (by omega) HX12.out.size ?_; intro v12 w12 hs hf ha; obtain ⟨B12, hB⟩ : ∃ B, B = B11 ++ (FieldM.num xb) := ⟨_, rfl⟩; have HB12 := Lib.hid hB; have hs' : Sl w12 W.heap.size 5 1 v12 B12.length (B12.map bv) := (by rw [hB, List.length_append, List.map_append]; exact hs); have bl12 : B12.length ≤ 33500 := (by rw [hB, List.length_append]; omega); obtain ⟨A12, c12, rfl, _⟩ := hs'.shape; have HS12 := Lib.hid hs'; have HF12 : Hid (Fresh W w12) := Lib.hid (HX12.out.trans' hf (fun k hk e => by have := (HT12.out.lt k e).1; omega)); have HG12 := Lib.hid (HE12.out.frm hf (fun e => HT12.out.apart HE12.out (by decide) e)); have d2_w12 : w12.cell? ⟨ge, 2, none⟩ = some (.int .i64 (xc : Int)) := (by rw [← XC.out]; exact HG12.out.cell 2); clear hB hs hs' hf ha)
            clear d1_w11
            go_wp2_with fail
            refine (refNumber_any xc (by omega) w12).mono ?_
            rintro e x13 ⟨y13, rfl, hy, fy⟩
            obtain ⟨D13, d13, rfl, _⟩ := hy.shape
            have HY13 := Lib.hid hy
            have HT13 := Lib.hid (HS12.out.fresh fy)
            have HX13 := Lib.hid (HF12.out.trans fy)
            have cl13 := num_le9 (n := xc) (by omega)
            have HE13 := Lib.hid (HG12.out.frm fy (fun f => f))
            clear hy fy
            go_wp2_with (at_builtin; refine wpList_append_sl _ rfl (.tmp 104) (.tmp 108) _ rfl W.heap.size 5 i0 _ 1 1 Try.underlying26 hi hz0 hz1 hz2 rfl (by omega) _ B12.length _ rfl HT13.out x13.heap.size D13 (FieldM.num xc).length d13 ((FieldM.num xc).map bv) rfl (by rw [List.length_map, Nat.mul_one]) HY13.out.rd (bv_one _) (by unfold maxLen; omega) (by omega) HX13.out.size ?_; intro v13 w13 hs hf ha; obtain ⟨B13, hB⟩ : ∃ B, B = B12 ++ (FieldM.num xc) := ⟨_, rfl⟩; have HB13 := Lib.hid hB; have hs' : Sl w13 W.heap.size 5 1 v13 B13.length (B13.map bv) := (by rw [hB, List.length_append, List.map_append]; exact hs); have bl13 : B13.length ≤ 33600 := (by rw [hB, List.length_append]; omega); obtain ⟨A13, c13, rfl, _⟩ := hs'.shape; have HS13 := Lib.hid hs'; have HF13 : Hid (Fresh W w13) := Lib.hid (HX13.out.trans' hf (fun k hk e => by have := (HT13.out.lt k e).1; omega)); have HG13 := Lib.hid (HE13.out.frm hf (fun e => HT13.out.apart HE13.out (by decide) e)); have d3_w13 : w13.cell? ⟨ge, 3, none⟩ = some (.slice x.A x.d.length x.c) := (by exact HG13.out.cell 3); clear hB hs hs' hf ha)
            clear d2_w12
            go_wp2_with fail
            refine (refText_any x.A x.c x.d w13 ((HRX.out.fresh (Nat.le_refl _) HF13.out).more HF13.out.size) (by omega)).mono ?_
            rintro e x14 ⟨y14, rfl, hy, fy⟩
            obtain ⟨D14, d14, rfl, _⟩ := hy.shape
            have HY14 := Lib.hid hy
            have HT14 := Lib.hid (HS13.out.fresh fy)
            have HX14 := Lib.hid (HF13.out.trans fy)
            have cl14 := text_le (ts := x.d) (by omega)
            have HE14 := Lib.hid (HG13.out.frm fy (fun f => f))
            clear hy fy
            go_wp2_with (at_builtin; refine wpList_append_sl _ rfl (.tmp 110) (.tmp 113) _ rfl W.heap.size 5 i0 _ 1 1 Try.underlying26 hi hz0 hz1 hz2 rfl (by omega) _ B13.length _ rfl HT14.out x14.heap.size D14 (FieldM.text x.d).length d14 ((FieldM.text x.d).map bv) rfl (by rw [List.length_map, Nat.mul_one]) HY14.out.rd (bv_one _) (by unfold maxLen; omega) (by omega) HX14.out.size ?_; intro v14 w14 hs hf ha; obtain ⟨B14, hB⟩ : ∃ B, B = B13 ++ (FieldM.text x.d) := ⟨_, rfl⟩; have HB14 := Lib.hid hB; have hs' : Sl w14 W.heap.size 5 1 v14 B14.length (B14.map bv) := (by rw [hB, List.length_append, List.map_append]; exact hs); have bl14 : B14.length ≤ 40000 := (by rw [hB, List.length_append]; omega); obtain ⟨A14, c14, rfl, _⟩ := hs'.shape; have HS14 := Lib.hid hs'; have HF14 : Hid (Fresh W w14) := Lib.hid (HX14.out.trans' hf (fun k hk e => by have := (HT14.out.lt k e).1; omega)); have HG14 := Lib.hid (HE14.out.frm hf (fun e => HT14.out.apart HE14.out (by decide) e)); clear hB hs hs' hf ha)
            clear d3_w13
            go_roundw
            case rel => exact ⟨i + 1, B14, by omega, by go_num, by rw [HTK.out, encE_eq XA.out XB.out XC.out, HB14.out, HB13.out, HB12.out, HB11.out, HQ.out]; simp [List.append_assoc], HS14.out, HF14.out⟩
            case measure => simp [intOf]; omega
          · obtain rfl : i = m.es.length := by omega
            have hlti : ¬ (m.es.length : Int) < (m.es.length : Int) := by omega
            rw [List.take_length] at HQ
            have k10_w9 : w9.cell? ⟨w.heap.size, 10, none⟩ = some (.slice m.AE m.es.length m.ce) := (HMB.out _ HF9.out).cell 10
            have k11_w9 : w9.cell? ⟨w.heap.size, 11, none⟩ = some (.int .i64 m.si) := (HMB.out _ HF9.out).cell 11
            have k12_w9 : w9.cell? ⟨w.heap.size, 12, none⟩ = some (.int .i64 m.st) := (HMB.out _ HF9.out).cell 12
            have k13_w9 : w9.cell? ⟨w.heap.size, 13, none⟩ = some (.slice m.AV m.vs.length m.cv) := (HMB.out _ HF9.out).cell 13
            have k14_w9 : w9.cell? ⟨w.heap.size, 14, none⟩ = some (.slice m.AL m.ls.length m.cl) := (HMB.out _ HF9.out).cell 14
            have k15_w9 : w9.cell? ⟨w.heap.size, 15, none⟩ = some (.slice m.AD m.ds.length m.cd) := (HMB.out _ HF9.out).cell 15
            have HEM : Hid (Calls Try.prog 47 #[.agg #[.int .i64 m.si, .int .i64 m.st, .slice m.AV m.vs.length m.cv, .slice m.AL m.ls.length m.cl, .slice m.AD m.ds.length m.cd]] w9 fun e w' => e = .returned (.bool (empB m)) ∧ Fresh w9 w') := Lib.hid (zeroS_any w9 m.si m.st m.AV m.AL m.AD m.cv m.cl m.cd m.vs m.ls m.ds (HH.out.fresh HF9.out).sn)
            obtain ⟨eb, heb⟩ : ∃ eb, eb = empB m := ⟨_, rfl⟩
            rw [← heb] at HEM
            have HEB := Lib.hid heb
            clear heb
            go_wp2_with fail
            refine HEM.out.mono ?_
            rintro e w15 ⟨rfl, f15⟩
            have HF15 := Lib.hid (HF9.out.trans f15)
            have HS15 := Lib.hid (HS9.out.fresh f15)
            clear f15 k10_w9 k11_w9 k12_w9 k13_w9 k14_w9 k15_w9
            have k11_w15 : w15.cell? ⟨w.heap.size, 11, none⟩ = some (.int .i64 m.si) := (HMB.out _ HF15.out).cell 11
            have k12_w15 : w15.cell? ⟨w.heap.size, 12, none⟩ = some (.int .i64 m.st) := (HMB.out _ HF15.out).cell 12
            have k13_w15 : w15.cell? ⟨w.heap.size, 13, none⟩ = some (.slice m.AV m.vs.length m.cv) := (HMB.out _ HF15.out).cell 13
            have k14_w15 : w15.cell? ⟨w.heap.size, 14, none⟩ = some (.slice m.AL m.ls.length m.cl) := (HMB.out _ HF15.out).cell 14
            have k15_w15 : w15.cell? ⟨w.heap.size, 15, none⟩ = some (.slice m.AD m.ds.length m.cd) := (HMB.out _ HF15.out).cell 15
            go_upto_if 119 with fail
            go_cut [11] from 120 (fun s11 wx => ∃ A c, s11 = .slice A (snapB m).length c ∧ Rd wx wx.heap.size A ((snapB m).map bv) ∧ (snapB m).length ≤ 200000 ∧ Fresh w15 wx)
            case first =>
              cases eb with
              | true =>
                have HSB : Hid (snapB m = []) := Lib.hid (by unfold snapB; rw [if_pos HEB.out.symm])
                go_wp2_with fail
                go_meet
                refine ⟨none, 0, ?_, ?_, ?_, Frm.refl _ _⟩
                · rw [HSB.out]; rfl
                · rw [HSB.out]; exact Rd.nil _ _ _
                · rw [HSB.out]; exact Nat.zero_le _
              | false =>
                have HSB : Hid (snapB m = encS m.si m.st m.vs m.ls m.ds) := Lib.hid (by unfold snapB; rw [if_neg (by rw [← HEB.out]; simp)])
                have hrs : rightS m.si m.st m.vs m.ls m.ds = true := by
                  have h := HRD.out
                  unfold rightD at h
                  rw [← HEB.out, Bool.and_eq_true] at h
                  simpa using h.2
                have HK := Lib.hid (refEncS_yes w15 m.si m.st m.AV m.AL m.AD m.cv m.cl m.cd m.vs m.ls m.ds (HH.out.fresh HF15.out).sn hrs)
                have HSL : Hid ((encS m.si m.st m.vs m.ls m.ds).length ≤ 200000) := Lib.hid (encS_le (HH.out.sn) hrs)
                clear hrs
                go_wp2_with fail
                refine HK.out.mono ?_
                rintro e x16 ⟨v, rfl, hs, f16⟩
                obtain ⟨A, c, rfl, _⟩ := hs.shape
                have HS3 := Lib.hid hs
                have HF3 := Lib.hid f16
                clear hs f16
                go_wp2_with fail
                go_meet
                refine ⟨A, c, ?_, ?_, ?_, HF3.out⟩
                · rw [HSB.out]
                · rw [HSB.out]; exact HS3.out.rd
                · rw [HSB.out]; exact HSL.out
            case rest =>
              obtain ⟨AS, cs, rfl, hrd, hsl, hfc⟩ := hcut
              obtain ⟨w16, hw16⟩ : ∃ w16, w16 = wc := ⟨_, rfl⟩
              subst hw16
              have HSR := Lib.hid hrd
              obtain ⟨ss, hss⟩ : ∃ ss, ss = snapB m := ⟨_, rfl⟩
              rw [← hss] at HSR hsl ⊢
              have HSS := Lib.hid hss
              obtain ⟨A16, hA16⟩ : ∃ A, A = A9 := ⟨_, rfl⟩
              subst hA16
              obtain ⟨c16, hc16⟩ : ∃ c, c = c9 := ⟨_, rfl⟩
              subst hc16
              obtain ⟨B16, hB16⟩ : ∃ B, B = B9 := ⟨_, rfl⟩
              subst hB16
              have bl16 := bl9
              have HS16 := Lib.hid (HS15.out.fresh hfc)
              have HF16 := Lib.hid (HF15.out.trans hfc)
              clear hrd hss hfc k11_w15 k12_w15 k13_w15 k14_w15 k15_w15 HS15 HF15 HS9 HF9
              go_wp2_with fail
              refine (refText_any AS cs ss w16 HSR.out (by omega)).mono ?_
              rintro e x17 ⟨y17, rfl, hy, fy⟩
              obtain ⟨D17, d17, rfl, _⟩ := hy.shape
              have HY17 := Lib.hid hy
              have HT17 := Lib.hid (HS16.out.fresh fy)
              have HX17 := Lib.hid (HF16.out.trans fy)
              have cl17 := text_le (ts := ss) (by omega)
              clear hy fy
              go_wp2_with (at_builtin; refine wpList_append_sl _ rfl (.tmp 126) (.tmp 128) _ rfl W.heap.size 5 i0 _ 1 1 Try.underlying26 hi hz0 hz1 hz2 rfl (by omega) _ B16.length _ rfl HT17.out x17.heap.size D17 (FieldM.text ss).length d17 ((FieldM.text ss).map bv) rfl (by rw [List.length_map, Nat.mul_one]) HY17.out.rd (bv_one _) (by unfold maxLen; omega) (by omega) HX17.out.size ?_; intro v17 w17 hs hf ha; obtain ⟨B17, hB⟩ : ∃ B, B = B16 ++ (FieldM.text ss) := ⟨_, rfl⟩; have HB17 := Lib.hid hB; have hs' : Sl w17 W.heap.size 5 1 v17 B17.length (B17.map bv) := (by rw [hB, List.length_append, List.map_append]; exact hs); have bl17 : B17.length ≤ 300000 := (by rw [hB, List.length_append]; omega); obtain ⟨A17, c17, rfl, _⟩ := hs'.shape; have HS17 := Lib.hid hs'; have HF17 : Hid (Fresh W w17) := Lib.hid (HX17.out.trans' hf (fun k hk e => by have := (HT17.out.lt k e).1; omega)); clear hB hs hs' hf ha)
              obtain ⟨hle, hcm⟩ : B17.length ≤ c17 ∧ c17 ≤ maxLen := by
                obtain ⟨A, cap, he, h1, h2, _⟩ := HS17.out.shape
                injection he with _ _ he
                rw [he]
                exact ⟨h1, h2⟩
              have HFB : Hid (B17 = bodyM m) := Lib.hid (by rw [HB17.out, HQ.out, HHE.out, HSS.out]; rfl)
              have HFZ := Lib.hid (HF.out.trans HF17.out)
              by_cases hfl : B17.length ≤ 65536
              · have HPC := Lib.hid (Rc.refPut_any w17 A17 c17 B17 HS17.out.rd hfl hle hcm)
                unfold Rc.PutPost at HPC
                clear hle hcm
                go_wp2_with fail
                refine HPC.out.mono ?_
                rintro e w18 ⟨v18, rfl, hs18, f18⟩
                have HS18 := Lib.hid hs18
                have HFL := Lib.hid (HFZ.out.trans f18)
                clear hs18 f18
                go_wp2_with fail
                go_ret2
                refine .inr ⟨HRD.out, .inl ⟨by rw [← HFB.out]; exact hfl, _, rfl, ?_, HFL.out⟩⟩
                rw [← HFB.out]
                exact HS18.out.less HFZ.out.size
              · have HPC := Lib.hid (Rc.refPut_no w17 A17 c17 B17.length (by omega))
                clear hle hcm
                go_wp2_with fail
                refine HPC.out.mono ?_
                rintro e w18 ⟨rfl, hw18⟩
                rw [← hw18]
                clear hw18
                go_wp2_with fail
                go_ret2
                exact .inr ⟨HRD.out, .inr ⟨by rw [← HFB.out]; omega, rfl, HFZ.out⟩⟩
theorem refEncode_any (w : World) (m : MsgM) (h : RdM w m) : Calls Try.prog 13 #[.agg (mcells m)] w fun e w' => EncMPost w m e w' := by
  cases hr : rightD m with
  | false => exact refEncode_no w m h hr
  | true => exact refEncode_yes w m h hr
end Go.Proofs.Ytlceembcehokoaa
namespace Go.Proofs.Ytlceembcehokoaa
open Go.RowKit
set_option linter.unusedVariables false
set_option maxRecDepth 100000

/-! ### A message as it comes in -/
abbrev ERaw : Type := Int × Int × Int × (Option Addr × Nat × List Int)
abbrev SRaw : Type := Int × Int × ((Option Addr × Nat × List Int) × (Option Addr × Nat × List Int)) × (Option Addr × Nat × List Int)
abbrev MRaw : Type := Int × Int × Int × Int × Int × Int × Bool × Int × Int × Int × (Option Addr × Nat × List ERaw) × SRaw
def mif : Int → List Value := fun n => [.int .i64 n]
def miq : Int → Prop := fun n => (Lit.int .i64 n).wf = true
def erf : ERaw → List Value := fun a => mif a.1 ++ (mif a.2.1 ++ (mif a.2.2.1 ++ [sv a.2.2.2]))
def erq (w : World) : ERaw → Prop := fun a => miq a.1 ∧ miq a.2.1 ∧ miq a.2.2.1 ∧ IsL w 1 Rc.u8f Rc.u8q a.2.2.2
def srf : SRaw → List Value := fun a => mif a.1 ++ (mif a.2.1 ++ (([sv a.2.2.1.1] ++ [sv a.2.2.1.2]) ++ [sv a.2.2.2]))
def srq (w : World) : SRaw → Prop := fun a => miq a.1 ∧ miq a.2.1 ∧ (IsL w 8 mif miq a.2.2.1.1 ∧ IsL w 8 mif miq a.2.2.1.2) ∧ IsL w 1 Rc.u8f Rc.u8q a.2.2.2
def mrf : MRaw → List Value := fun a => mif a.1 ++ (mif a.2.1 ++ (mif a.2.2.1 ++ (mif a.2.2.2.1 ++ (mif a.2.2.2.2.1 ++ (mif a.2.2.2.2.2.1 ++ ([.bool a.2.2.2.2.2.2.1] ++ (mif a.2.2.2.2.2.2.2.1 ++ (mif a.2.2.2.2.2.2.2.2.1 ++ (mif a.2.2.2.2.2.2.2.2.2.1 ++ ([sv a.2.2.2.2.2.2.2.2.2.2.1] ++ srf a.2.2.2.2.2.2.2.2.2.2.2))))))))))
def mrq (w : World) : MRaw → Prop := fun a => miq a.1 ∧ miq a.2.1 ∧ miq a.2.2.1 ∧ miq a.2.2.2.1 ∧ miq a.2.2.2.2.1 ∧ miq a.2.2.2.2.2.1 ∧ True ∧ miq a.2.2.2.2.2.2.2.1 ∧ miq a.2.2.2.2.2.2.2.2.1 ∧ miq a.2.2.2.2.2.2.2.2.2.1 ∧ IsL w 48 erf (erq w) a.2.2.2.2.2.2.2.2.2.2.1 ∧ srq w a.2.2.2.2.2.2.2.2.2.2.2
/-- what is known of a message that came in -/
structure RdM0 (w : World) (m : MsgM) : Prop where
  re : Rd w w.heap.size m.AE (m.es.flatMap ecells)
  rd : ∀ e ∈ m.es, Rd w w.heap.size e.A (e.d.map bv)
  rv : Rd w w.heap.size m.AV (ivs m.vs)
  rl : Rd w w.heap.size m.AL (ivs m.ls)
  rs : Rd w w.heap.size m.AD (m.ds.map bv)
  le : m.es.length ≤ maxLen
  lv : m.vs.length ≤ maxLen
  ll : m.ls.length ≤ maxLen
  ld : m.ds.length ≤ maxLen
  lx : ∀ e ∈ m.es, e.d.length ≤ maxLen
theorem RdM0.fresh {w w' : World} {m : MsgM} (h : RdM0 w m) (K : Fresh w w') : RdM0 w' m :=
  ⟨(h.re.fresh (Nat.le_refl _) K).more K.size, fun e he => ((h.rd e he).fresh (Nat.le_refl _) K).more K.size, (h.rv.fresh (Nat.le_refl _) K).more K.size, (h.rl.fresh (Nat.le_refl _) K).more K.size, (h.rs.fresh (Nat.le_refl _) K).more K.size, h.le, h.lv, h.ll, h.ld, h.lx⟩
theorem flat_ivs (zs : List Int) : zs.flatMap mif = ivs zs := by
  induction zs with
  | nil => rfl
  | cons z r ih =>
    rw [List.flatMap_cons, ih]
    rfl
theorem to_ens (w : World) : ∀ l : List ERaw, (∀ x ∈ l, erq w x) → ∃ es : List En, es.length = l.length ∧ l.flatMap erf = es.flatMap ecells ∧ ∀ e ∈ es, Rd w w.heap.size e.A (e.d.map bv) ∧ e.d.length ≤ maxLen := by
  intro l
  induction l with
  | nil => intro _; exact ⟨[], rfl, rfl, fun s hs => by cases hs⟩
  | cons a r ih =>
    intro h
    obtain ⟨ss, h1, h2, h3⟩ := ih (fun x hx => h x (by simp [hx]))
    obtain ⟨q1, q2, q3, q4⟩ := h a (by simp)
    obtain ⟨⟨A, c, bs⟩, hb1, hb2⟩ := Rc.to_bs q4
    refine ⟨⟨a.1, a.2.1, a.2.2.1, A, c, bs⟩ :: ss, by simp [h1], ?_, fun s hs => ?_⟩
    · rw [List.flatMap_cons, List.flatMap_cons, h2]
      unfold erf
      rw [hb1]
      rfl
    · rcases List.mem_cons.1 hs with rfl | hs
      · exact ⟨hb2.rd, Nat.le_trans hb2.le hb2.most⟩
      · exact h3 s hs
theorem to_msg {w : World} {a : MRaw} (h : mrq w a) : ∃ m : MsgM, (mrf a).toArray = mcells m ∧ RdM0 w m := by
  obtain ⟨a0, a1, a2, a3, a4, a5, a6, a7, a8, a9, ⟨AE, ce, l⟩, s0, s1, ⟨⟨AV, cv, vs⟩, AL, cl, ls⟩, sd⟩ := a
  obtain ⟨-, -, -, -, -, -, -, -, -, -, he, -, -, ⟨hv, hl⟩, hd⟩ := h
  obtain ⟨es, e1, e2, e3⟩ := to_ens w l he.all
  obtain ⟨⟨AD, cd, ds⟩, hb1, hb2⟩ := Rc.to_bs hd
  refine ⟨⟨a0, a1, a2, a3, a4, a5, a6, a7, a8, a9, AE, ce, es, s0, s1, AV, cv, vs, AL, cl, ls, AD, cd, ds⟩, ?_, ?_⟩
  · unfold mrf srf mcells
    dsimp only
    dsimp only at hb1
    rw [hb1]
    show _ = #[_, _, _, _, _, _, _, _, _, _, _, _, _, _, _, _]
    simp only [e1]
    rfl
  · refine ⟨?_, fun e he => (e3 e he).1, ?_, ?_, hb2.rd, ?_, ?_, ?_, ?_, fun e he => (e3 e he).2⟩
    · have := he.rd
      rwa [e2] at this
    · have := hv.rd
      rwa [flat_ivs] at this
    · have := hl.rd
      rwa [flat_ivs] at this
    · show es.length ≤ _
      rw [e1]
      exact Nat.le_trans he.le he.most
    · exact Nat.le_trans hv.le hv.most
    · exact Nat.le_trans hl.le hl.most
    · exact Nat.le_trans hb2.le hb2.most
def bigE (es : List En) : Bool := decide (∃ e ∈ es, 10000 < e.d.length)
def muchB (m : MsgM) : Bool := decide (100 < m.es.length) || (decide (100000 < m.ds.length) || (decide (1000 < m.vs.length) || (decide (1000 < m.ls.length) || bigE m.es)))
theorem RdM0.more {w : World} {m : MsgM} (h : RdM0 w m) (hm : muchB m = false) : RdM w m := by
  unfold muchB at hm
  rw [Bool.or_eq_false_iff, Bool.or_eq_false_iff, Bool.or_eq_false_iff, Bool.or_eq_false_iff] at hm
  obtain ⟨h1, h2, h3, h4, h5⟩ := hm
  have h1 := of_decide_eq_false h1
  have h2 := of_decide_eq_false h2
  have h3 := of_decide_eq_false h3
  have h4 := of_decide_eq_false h4
  have h5 := of_decide_eq_false h5
  refine ⟨h.re, h.rd, ⟨h.rv, h.rl, h.rs, by omega, by omega, by omega⟩, by omega, fun e he => ?_⟩
  rcases Nat.lt_or_ge 10000 e.d.length with h6 | h6
  · exact absurd ⟨e, he, h6⟩ h5
  · omega

set_option maxHeartbeats 8000000 in
theorem much_any (w : World) (m : MsgM) (h : RdM0 w m) : Calls Try.prog 11 #[.agg (mcells m)] w fun e w' => e = .returned (.bool (muchB m)) ∧ Fresh w w' := by
  obtain ⟨W, hW⟩ : ∃ W, w.alloc (.cells (mcells m) 30) = W := ⟨_, rfl⟩
  have HF : Hid (Fresh w W) := Lib.hid (by rw [← hW]; exact (Frm.refl _ w).alloc _)
  have BX : Hid (Blk W w.heap.size 30 (mcells m)) := Lib.hid (by rw [← hW]; exact Blk.new w _ _)
  have HH := Lib.hid (h.fresh HF.out)
  have q1 := h.le
  have q2 := h.ld
  have q3 := h.lv
  have q4 := h.ll
  unfold maxLen at q1 q2 q3 q4
  unfold mcells at hW BX ⊢
  clear h
  have k10 : W.cell? ⟨w.heap.size, 10, none⟩ = some (.slice m.AE m.es.length m.ce) := BX.out.cell 10
  have k13 : W.cell? ⟨w.heap.size, 13, none⟩ = some (.slice m.AV m.vs.length m.cv) := BX.out.cell 13
  have k14 : W.cell? ⟨w.heap.size, 14, none⟩ = some (.slice m.AL m.ls.length m.cl) := BX.out.cell 14
  have k15 : W.cell? ⟨w.heap.size, 15, none⟩ = some (.slice m.AD m.ds.length m.cd) := BX.out.cell 15
  go_enter Try.func11, Try.ntmps11
  by_cases c0 : ¬ 100 < (m.es.length : Int)
  · by_cases c1 : ¬ 100000 < (m.ds.length : Int)
    · by_cases c2 : ¬ 1000 < (m.vs.length : Int)
      · by_cases c3 : ¬ 1000 < (m.ls.length : Int)
        · go_wp2_with fail
          first | rw [hW] | skip
          clear hW
          go_loopw [3] (fun v3 wr => ∃ i : Nat, i ≤ m.es.length ∧ v3 = .int .i64 (i : Int) ∧ (∀ e ∈ m.es.take i, ¬ 10000 < e.d.length) ∧ wr = W) (fun v3 _ => m.es.length - (intOf v3).toNat)
          case atStart => exact ⟨0, by omega, rfl, fun v hv => by simp at hv, rfl⟩
          case round =>
            obtain ⟨i, hi, rfl, hno, hwr⟩ := hrel
            rw [hwr]
            clear hwr
            have hi0 : (0 : Int) ≤ (i : Int) := by omega
            have HNO := Lib.hid hno
            clear hno
            by_cases hlt : i < m.es.length
            · have hlti : (i : Int) < (m.es.length : Int) := by omega
              obtain ⟨b, o, hAE, _, -, -, -, d3⟩ := four_at HH.out.re hlt
              have HM := Lib.hid (List.getElem_mem hlt)
              have HT := Lib.hid (List.take_succ_eq_append_getElem hlt)
              rw [hAE] at k10
              clear hAE
              generalize m.es[i] = x at d3 HM HT
              by_cases hx : 10000 < (x.d.length : Int)
              · have HV : Hid (muchB m = true) := Lib.hid (by
                  have : bigE m.es = true := decide_eq_true ⟨x, HM.out, by omega⟩
                  unfold muchB
                  rw [this]
                  simp)
                go_wp2_with fail
                go_ret
                exact ⟨by first | (rw [HV.out]; done) | (rw [HV.out]; rfl) | (rw [HV.out]; simp <;> omega), HF.out⟩
              · go_wp2_with fail
                go_roundw
                case rel => exact ⟨i + 1, by omega, by go_num, fun e he => by
                  rw [HT.out] at he
                  rcases List.mem_append.1 he with he | he
                  · exact HNO.out e he
                  · rw [List.mem_singleton] at he
                    rw [he]
                    omega, by first | rfl | trivial | simp⟩
                case measure => simp [intOf]; omega
            · obtain rfl : i = m.es.length := by omega
              have hlti : ¬ (m.es.length : Int) < (m.es.length : Int) := by omega
              have HV : Hid (muchB m = false) := Lib.hid (by
                have : bigE m.es = false := decide_eq_false (by
                  rintro ⟨e, he, h⟩
                  have := HNO.out e (by rwa [List.take_of_length_le (by omega)])
                  exact this h)
                unfold muchB
                rw [this]
                rw [decide_eq_false (p := 100 < m.es.length) (by omega), decide_eq_false (p := 100000 < m.ds.length) (by omega), decide_eq_false (p := 1000 < m.vs.length) (by omega), decide_eq_false (p := 1000 < m.ls.length) (by omega)]
                rfl)
              go_wp2_with fail
              go_ret
              exact ⟨by first | (rw [HV.out]; done) | (rw [HV.out]; rfl) | (rw [HV.out]; simp <;> omega), HF.out⟩
        · have HV : Hid (muchB m = true) := Lib.hid (by unfold muchB; simp only [Bool.or_eq_true, decide_eq_true_eq]; omega)
          go_wp2_with fail
          go_ret
          exact ⟨by first | (rw [HV.out]; done) | (rw [HV.out]; rfl) | (rw [HV.out]; simp <;> omega), by first | exact HF.out | exact (Frm.refl _ w).alloc _⟩
      · have HV : Hid (muchB m = true) := Lib.hid (by unfold muchB; simp only [Bool.or_eq_true, decide_eq_true_eq]; omega)
        go_wp2_with fail
        go_ret
        exact ⟨by first | (rw [HV.out]; done) | (rw [HV.out]; rfl) | (rw [HV.out]; simp <;> omega), by first | exact HF.out | exact (Frm.refl _ w).alloc _⟩
    · have HV : Hid (muchB m = true) := Lib.hid (by unfold muchB; simp only [Bool.or_eq_true, decide_eq_true_eq]; omega)
      go_wp2_with fail
      go_ret
      exact ⟨by first | (rw [HV.out]; done) | (rw [HV.out]; rfl) | (rw [HV.out]; simp <;> omega), by first | exact HF.out | exact (Frm.refl _ w).alloc _⟩
  · have HV : Hid (muchB m = true) := Lib.hid (by unfold muchB; simp only [Bool.or_eq_true, decide_eq_true_eq]; omega)
    go_wp2_with fail
    go_ret
    exact ⟨by first | (rw [HV.out]; done) | (rw [HV.out]; rfl) | (rw [HV.out]; simp <;> omega), by first | exact HF.out | exact (Frm.refl _ w).alloc _⟩
theorem EncMPost.cases {w : World} {m : MsgM} {e : Ending} {w' : World} (h : EncMPost w m e w') :
    ∃ (A : Option Addr) (n c : Nat) (bs : List UInt8) (x : Int), e = .returned (.tuple #[.slice A n c, .int .i64 x]) ∧ n = bs.length ∧ Rd w' w'.heap.size A (bs.map bv) ∧ Fresh w w' ∧
      bs = (if rightD m = true then (if (bodyM m).length ≤ 65536 then Rc.rec (bodyM m) else []) else []) ∧ x = (if rightD m = true then (if (bodyM m).length ≤ 65536 then 0 else 3) else 1) := by
  rcases h with ⟨h1, h2, h3⟩ | ⟨h1, ⟨h2, v, h3, h4, h5⟩ | ⟨h2, h3, h4⟩⟩
  · exact ⟨none, 0, 0, [], 1, h2, rfl, Rd.nil _ _ _, h3, by rw [h1]; simp, by rw [h1]; simp⟩
  · obtain ⟨A, c, rfl, _⟩ := h4.shape
    have hl := h4.1
    rw [List.length_map, Nat.mul_one] at hl
    exact ⟨A, _, c, Rc.rec (bodyM m), 0, h3, hl.symm, h4.rd, h5, by rw [h1, if_pos rfl, if_pos h2], by rw [h1, if_pos rfl, if_pos h2]⟩
  · exact ⟨none, 0, 0, [], 3, h3, rfl, Rd.nil _ _ _, h4, by rw [h1, if_pos rfl, if_neg (by omega)], by rw [h1, if_pos rfl, if_neg (by omega)]⟩
set_option maxHeartbeats 8000000 in
theorem codes_law (w : World) (m : MsgM) (h : RdM0 w m) : Calls Try.prog 3 #[.agg (mcells m)] w fun e w' => e = .returned (.bool true) ∧ Below w.heap.size w w' := by
  obtain ⟨W, hW⟩ : ∃ W, w.alloc (.cells (mcells m) 30) = W := ⟨_, rfl⟩
  have HF : Hid (Fresh w W) := Lib.hid (by rw [← hW]; exact (Frm.refl _ w).alloc _)
  have BX : Hid (Blk W w.heap.size 30 (mcells m)) := Lib.hid (by rw [← hW]; exact Blk.new w _ _)
  have HBX : Hid (∀ w', Fresh W w' → Blk w' w.heap.size 30 #[.int .i64 m.kd, .int .i64 m.fr, .int .i64 m.to, .int .i64 m.tm, .int .i64 m.ix, .int .i64 m.lt, .bool m.ys, .int .i64 m.cm, .int .i64 m.hn, .int .i64 m.rd, .slice m.AE m.es.length m.ce, .int .i64 m.si, .int .i64 m.st, .slice m.AV m.vs.length m.cv, .slice m.AL m.ls.length m.cl, .slice m.AD m.ds.length m.cd]) := Lib.hid (fun w' F => BX.out.frm F (fun f => f))
  have HH := Lib.hid h
  have HMC : Hid (mcells m = #[.int .i64 m.kd, .int .i64 m.fr, .int .i64 m.to, .int .i64 m.tm, .int .i64 m.ix, .int .i64 m.lt, .bool m.ys, .int .i64 m.cm, .int .i64 m.hn, .int .i64 m.rd, .slice m.AE m.es.length m.ce, .int .i64 m.si, .int .i64 m.st, .slice m.AV m.vs.length m.cv, .slice m.AL m.ls.length m.cl, .slice m.AD m.ds.length m.cd]) := Lib.hid rfl
  rw [HMC.out] at hW ⊢
  clear h BX
  go_enter Try.func3, Try.ntmps3
  go_wp2_with fail
  first | rw [hW] | skip
  clear hW
  refine (awake_any W).mono ?_
  rintro e w1 ⟨rfl, f1⟩
  have HF1 := Lib.hid f1
  have HM := Lib.hid (much_any w1 m (HH.out.fresh (HF.out.trans f1)))
  rw [HMC.out] at HM
  clear f1
  have k0 : w1.cell? ⟨w.heap.size, 0, none⟩ = some (.int .i64 m.kd) := (HBX.out _ HF1.out).cell 0
  have k1 : w1.cell? ⟨w.heap.size, 1, none⟩ = some (.int .i64 m.fr) := (HBX.out _ HF1.out).cell 1
  have k2 : w1.cell? ⟨w.heap.size, 2, none⟩ = some (.int .i64 m.to) := (HBX.out _ HF1.out).cell 2
  have k3 : w1.cell? ⟨w.heap.size, 3, none⟩ = some (.int .i64 m.tm) := (HBX.out _ HF1.out).cell 3
  have k4 : w1.cell? ⟨w.heap.size, 4, none⟩ = some (.int .i64 m.ix) := (HBX.out _ HF1.out).cell 4
  have k5 : w1.cell? ⟨w.heap.size, 5, none⟩ = some (.int .i64 m.lt) := (HBX.out _ HF1.out).cell 5
  have k6 : w1.cell? ⟨w.heap.size, 6, none⟩ = some (.bool m.ys) := (HBX.out _ HF1.out).cell 6
  have k7 : w1.cell? ⟨w.heap.size, 7, none⟩ = some (.int .i64 m.cm) := (HBX.out _ HF1.out).cell 7
  have k8 : w1.cell? ⟨w.heap.size, 8, none⟩ = some (.int .i64 m.hn) := (HBX.out _ HF1.out).cell 8
  have k9 : w1.cell? ⟨w.heap.size, 9, none⟩ = some (.int .i64 m.rd) := (HBX.out _ HF1.out).cell 9
  have k10 : w1.cell? ⟨w.heap.size, 10, none⟩ = some (.slice m.AE m.es.length m.ce) := (HBX.out _ HF1.out).cell 10
  have k11 : w1.cell? ⟨w.heap.size, 11, none⟩ = some (.int .i64 m.si) := (HBX.out _ HF1.out).cell 11
  have k12 : w1.cell? ⟨w.heap.size, 12, none⟩ = some (.int .i64 m.st) := (HBX.out _ HF1.out).cell 12
  have k13 : w1.cell? ⟨w.heap.size, 13, none⟩ = some (.slice m.AV m.vs.length m.cv) := (HBX.out _ HF1.out).cell 13
  have k14 : w1.cell? ⟨w.heap.size, 14, none⟩ = some (.slice m.AL m.ls.length m.cl) := (HBX.out _ HF1.out).cell 14
  have k15 : w1.cell? ⟨w.heap.size, 15, none⟩ = some (.slice m.AD m.ds.length m.cd) := (HBX.out _ HF1.out).cell 15
  cases hmu : muchB m with
  | true =>
    rw [hmu] at HM
    clear hmu
    go_wp2_with fail
    refine HM.out.mono ?_
    rintro e w2 ⟨rfl, f2⟩
    have HF2 := Lib.hid (HF1.out.trans f2)
    clear f2
    go_wp2_with fail
    go_ret
    exact ⟨by first | rfl | simp, Fresh.below (HF.out.trans HF2.out)⟩
  | false =>
    have HRM := Lib.hid (HH.out.more hmu)
    rw [hmu] at HM
    clear hmu
    go_wp2_with fail
    refine HM.out.mono ?_
    rintro e w2 ⟨rfl, f2⟩
    have HF2 := Lib.hid (HF1.out.trans f2)
    have HE := Lib.hid (netEncode_any w2 m (HRM.out.fresh (HF.out.trans HF2.out)))
    rw [HMC.out] at HE
    clear f2 k0 k1 k2 k3 k4 k5 k6 k7 k8 k9 k10 k11 k12 k13 k14 k15
    have k0 : w2.cell? ⟨w.heap.size, 0, none⟩ = some (.int .i64 m.kd) := (HBX.out _ HF2.out).cell 0
    have k1 : w2.cell? ⟨w.heap.size, 1, none⟩ = some (.int .i64 m.fr) := (HBX.out _ HF2.out).cell 1
    have k2 : w2.cell? ⟨w.heap.size, 2, none⟩ = some (.int .i64 m.to) := (HBX.out _ HF2.out).cell 2
    have k3 : w2.cell? ⟨w.heap.size, 3, none⟩ = some (.int .i64 m.tm) := (HBX.out _ HF2.out).cell 3
    have k4 : w2.cell? ⟨w.heap.size, 4, none⟩ = some (.int .i64 m.ix) := (HBX.out _ HF2.out).cell 4
    have k5 : w2.cell? ⟨w.heap.size, 5, none⟩ = some (.int .i64 m.lt) := (HBX.out _ HF2.out).cell 5
    have k6 : w2.cell? ⟨w.heap.size, 6, none⟩ = some (.bool m.ys) := (HBX.out _ HF2.out).cell 6
    have k7 : w2.cell? ⟨w.heap.size, 7, none⟩ = some (.int .i64 m.cm) := (HBX.out _ HF2.out).cell 7
    have k8 : w2.cell? ⟨w.heap.size, 8, none⟩ = some (.int .i64 m.hn) := (HBX.out _ HF2.out).cell 8
    have k9 : w2.cell? ⟨w.heap.size, 9, none⟩ = some (.int .i64 m.rd) := (HBX.out _ HF2.out).cell 9
    have k10 : w2.cell? ⟨w.heap.size, 10, none⟩ = some (.slice m.AE m.es.length m.ce) := (HBX.out _ HF2.out).cell 10
    have k11 : w2.cell? ⟨w.heap.size, 11, none⟩ = some (.int .i64 m.si) := (HBX.out _ HF2.out).cell 11
    have k12 : w2.cell? ⟨w.heap.size, 12, none⟩ = some (.int .i64 m.st) := (HBX.out _ HF2.out).cell 12
    have k13 : w2.cell? ⟨w.heap.size, 13, none⟩ = some (.slice m.AV m.vs.length m.cv) := (HBX.out _ HF2.out).cell 13
    have k14 : w2.cell? ⟨w.heap.size, 14, none⟩ = some (.slice m.AL m.ls.length m.cl) := (HBX.out _ HF2.out).cell 14
    have k15 : w2.cell? ⟨w.heap.size, 15, none⟩ = some (.slice m.AD m.ds.length m.cd) := (HBX.out _ HF2.out).cell 15
    go_wp2_with fail
    refine HE.out.mono ?_
    rintro e w3 h3
    obtain ⟨A1, n1, c1, b1, x1, rfl, hn1, r1, f3, e1, y1⟩ := EncMPost.cases h3
    have HF3 := Lib.hid (HF2.out.trans f3)
    have HR1 := Lib.hid r1
    have HE1 := Lib.hid e1
    have HY1 := Lib.hid y1
    have HN1 := Lib.hid hn1
    have HE := Lib.hid (refEncode_any w3 m (HRM.out.fresh (HF.out.trans HF3.out)))
    rw [HMC.out] at HE
    clear f3 h3 r1 e1 y1 hn1 k0 k1 k2 k3 k4 k5 k6 k7 k8 k9 k10 k11 k12 k13 k14 k15
    have k0 : w3.cell? ⟨w.heap.size, 0, none⟩ = some (.int .i64 m.kd) := (HBX.out _ HF3.out).cell 0
    have k1 : w3.cell? ⟨w.heap.size, 1, none⟩ = some (.int .i64 m.fr) := (HBX.out _ HF3.out).cell 1
    have k2 : w3.cell? ⟨w.heap.size, 2, none⟩ = some (.int .i64 m.to) := (HBX.out _ HF3.out).cell 2
    have k3 : w3.cell? ⟨w.heap.size, 3, none⟩ = some (.int .i64 m.tm) := (HBX.out _ HF3.out).cell 3
    have k4 : w3.cell? ⟨w.heap.size, 4, none⟩ = some (.int .i64 m.ix) := (HBX.out _ HF3.out).cell 4
    have k5 : w3.cell? ⟨w.heap.size, 5, none⟩ = some (.int .i64 m.lt) := (HBX.out _ HF3.out).cell 5
    have k6 : w3.cell? ⟨w.heap.size, 6, none⟩ = some (.bool m.ys) := (HBX.out _ HF3.out).cell 6
    have k7 : w3.cell? ⟨w.heap.size, 7, none⟩ = some (.int .i64 m.cm) := (HBX.out _ HF3.out).cell 7
    have k8 : w3.cell? ⟨w.heap.size, 8, none⟩ = some (.int .i64 m.hn) := (HBX.out _ HF3.out).cell 8
    have k9 : w3.cell? ⟨w.heap.size, 9, none⟩ = some (.int .i64 m.rd) := (HBX.out _ HF3.out).cell 9
    have k10 : w3.cell? ⟨w.heap.size, 10, none⟩ = some (.slice m.AE m.es.length m.ce) := (HBX.out _ HF3.out).cell 10
    have k11 : w3.cell? ⟨w.heap.size, 11, none⟩ = some (.int .i64 m.si) := (HBX.out _ HF3.out).cell 11
    have k12 : w3.cell? ⟨w.heap.size, 12, none⟩ = some (.int .i64 m.st) := (HBX.out _ HF3.out).cell 12
    have k13 : w3.cell? ⟨w.heap.size, 13, none⟩ = some (.slice m.AV m.vs.length m.cv) := (HBX.out _ HF3.out).cell 13
    have k14 : w3.cell? ⟨w.heap.size, 14, none⟩ = some (.slice m.AL m.ls.length m.cl) := (HBX.out _ HF3.out).cell 14
    have k15 : w3.cell? ⟨w.heap.size, 15, none⟩ = some (.slice m.AD m.ds.length m.cd) := (HBX.out _ HF3.out).cell 15
    go_wp2_with fail
    refine HE.out.mono ?_
    rintro e w4 h4
    obtain ⟨A2, n2, c2, b2, x2, rfl, hn2, r2, f4, e2, y2⟩ := EncMPost.cases h4
    have HF4 := Lib.hid (HF3.out.trans f4)
    have HR2 := Lib.hid r2
    have HB : Hid (b2 = b1) := Lib.hid (e2.trans HE1.out.symm)
    obtain rfl : x2 = x1 := y2.trans HY1.out.symm
    have qa : (convert 26 9 (.slice A1 n1 c1)).run Try.prog w4 = .ok (.string (str b1)) w4 := Rc.conv_u c1 (HR1.out.fresh (Nat.le_refl _) f4) HN1.out
    have qb : (convert 26 9 (.slice A2 n2 c2)).run Try.prog w4 = .ok (.string (str b1)) w4 := by rw [← HB.out]; exact Rc.conv_u c2 HR2.out hn2
    clear f4 h4 r2 e2 y2 hn2 HY1 k0 k1 k2 k3 k4 k5 k6 k7 k8 k9 k10 k11 k12 k13 k14 k15
    go_wp2_with fail
    go_ret
    exact ⟨by first | rfl | simp, Fresh.below (HF.out.trans HF4.out)⟩
theorem codes_walk (w : World) (a : MRaw) (h : mrq w a) : Calls Try.prog 3 #[.agg (mrf a).toArray] w fun e w' => e = .returned (.bool true) ∧ Below w.heap.size w w' := by
  obtain ⟨m, h1, h2⟩ := to_msg h
  rw [h1]
  exact codes_law w m h2
end Go.Proofs.Ytlceembcehokoaa
namespace Go.Proofs.Ytlceembcehokoaa
open Go.RowKit ReadM
set_option linter.unusedVariables false
set_option maxRecDepth 100000

theorem rdn_num {n most : Nat} (h : n < 18446744073709551616) (hm : n ≤ most) (rest : List UInt8) : rdn most (FieldM.num n ++ rest, false) = (n, (rest, false)) := by
  unfold rdn rd1
  dsimp only
  rw [if_neg (by simp), numRes_num h hm rest]
theorem rdi_int {x : Int} (h : -1099511627776 ≤ x ∧ x ≤ 1099511627776) (rest : List UInt8) : rdi (FieldM.int x ++ rest, false) = (x, (rest, false)) := by
  unfold rdi rd1
  dsimp only
  rw [if_neg (by simp), intRes_int (by omega) (by omega) h.1 h.2 rest]
theorem rdt_text {b : List UInt8} {most : Int} (h : b.length < 18446744073709551616) (hm : (b.length : Int) ≤ most) (rest : List UInt8) : rdt most (FieldM.text b ++ rest, false) = (b, (rest, false)) := by
  unfold rdt rd1
  dsimp only
  rw [if_neg (by simp), textRes_text h hm rest]
theorem rlS_nums : ∀ (vs l : List Int) (rest : List UInt8), (∀ v ∈ vs, 0 ≤ v ∧ v ≤ 15) → rlS vs.length l ((vs.map Int.toNat).flatMap FieldM.num ++ rest, false) = (l ++ vs, (rest, false))
  | [], l, rest, _ => by simp [rlS]
  | v :: vs, l, rest, h => by
    have hv := h v (by simp)
    rw [List.map_cons, List.flatMap_cons, List.append_assoc, List.length_cons, rlS, rdn_num (by omega) (by omega)]
    dsimp only
    rw [rlS_nums vs _ rest (fun x hx => h x (List.mem_cons_of_mem _ hx)), Int.toNat_of_nonneg hv.1]
    simp
theorem rises_all : ∀ (vs : List Int) (last : Int), 0 ≤ last → last ≤ 15 → risesF last vs = true → (∀ v ∈ vs, 0 ≤ v ∧ v ≤ 15) ∧ (vs.length : Int) + last ≤ 15
  | [], last, h0, h1, _ => ⟨(fun v hv => by cases hv), by simpa using h1⟩
  | x :: r, last, h0, h1, h => by
    by_cases a : last < x
    · by_cases b : x ≤ 15
      · rw [risesF_on a b] at h
        obtain ⟨i1, i2⟩ := rises_all r x (by omega) b h
        refine ⟨fun v hv => ?_, ?_⟩
        · rcases List.mem_cons.1 hv with rfl | hv
          · omega
          · exact i1 v hv
        · rw [List.length_cons]
          omega
      · rw [risesF_high (by omega)] at h
        cases h
    · rw [risesF_low (by omega)] at h
      cases h
theorem rlist_enc {vs : List Int} (h : risesF 0 vs = true) (rest : List UInt8) : rlist ([vs.length].flatMap FieldM.num ++ ((vs.map Int.toNat).flatMap FieldM.num ++ rest), false) = (vs, (rest, false)) := by
  obtain ⟨h1, h2⟩ := rises_all vs 0 (by omega) (by omega) h
  unfold rlist
  rw [List.flatMap_cons, List.flatMap_nil, List.append_nil, rdn_num (by omega) (by omega)]
  dsimp only
  rw [rlS_nums vs [] rest h1]
  rfl
theorem rightS_parts {i t : Int} {vs ls : List Int} {ds : List UInt8} (h : rightS i t vs ls ds = true) : ((0 ≤ i ∧ i ≤ 1099511627776) ∧ (0 ≤ t ∧ t ≤ 1099511627776) ∧ ds.length ≤ 60000) ∧ risesF 0 vs = true ∧ risesF 0 ls = true := by
  unfold rightS numS at h
  rw [Bool.and_eq_true] at h
  have hg := h.2
  unfold groupS at hg
  rw [Bool.and_eq_true, Bool.and_eq_true, Bool.and_eq_true] at hg
  exact ⟨of_decide_eq_true h.1, hg.1.1.1, hg.1.1.2⟩
theorem readS_enc {i t : Int} {vs ls : List Int} {ds : List UInt8} (h : rightS i t vs ls ds = true) : readS (encS i t vs ls ds, false) = (⟨i.toNat, t.toNat, vs, ls, ds⟩, ([], false)) := by
  obtain ⟨⟨h1, h2, h3⟩, h4, h5⟩ := rightS_parts h
  have e : encS i t vs ls ds = FieldM.num i.toNat ++ (FieldM.num t.toNat ++ ([vs.length].flatMap FieldM.num ++ ((vs.map Int.toNat).flatMap FieldM.num ++ ([ls.length].flatMap FieldM.num ++ ((ls.map Int.toNat).flatMap FieldM.num ++ (FieldM.text ds ++ [])))))) := by
    unfold encS
    simp
  rw [e]
  unfold readS
  rw [rdn_num (by omega) (by omega)]
  dsimp only
  rw [rdn_num (by omega) (by omega)]
  dsimp only
  rw [rlist_enc h4]
  dsimp only
  rw [rlist_enc h5]
  dsimp only
  rw [rdt_text (by omega) (by omega)]
theorem decS_enc {i t : Int} {vs ls : List Int} {ds : List UInt8} (h : rightS i t vs ls ds = true) : decS (encS i t vs ls ds) = some ⟨i.toNat, t.toNat, vs, ls, ds⟩ := by
  obtain ⟨⟨h1, h2, h3⟩, h4, h5⟩ := rightS_parts h
  unfold decS
  rw [readS_enc h]
  dsimp only
  rw [Int.toNat_of_nonneg h1.1, Int.toNat_of_nonneg h2.1, if_pos ⟨rfl, h⟩]
theorem readE_enc {e : En} (h : rightE e.i e.t e.k e.d.length = true) (rest : List UInt8) : readE (encE e ++ rest, false) = (eraseE e, (rest, false)) := by
  obtain ⟨h1, h2, h3, h4⟩ := rightE_ok h
  have e1 : encE e ++ rest = FieldM.num e.i.toNat ++ (FieldM.num e.t.toNat ++ (FieldM.num e.k.toNat ++ (FieldM.text e.d ++ rest))) := by
    unfold encE nz
    simp
  rw [e1]
  unfold readE eraseE
  rw [rdn_num (by omega) (by omega)]
  dsimp only
  rw [rdn_num (by omega) (by omega)]
  dsimp only
  rw [rdn_num (by omega) (by omega)]
  dsimp only
  rw [rdt_text (by omega) (by omega)]
  dsimp only
  rw [Int.toNat_of_nonneg (by omega), Int.toNat_of_nonneg h2.1, Int.toNat_of_nonneg h3.1]
theorem readEs_enc : ∀ (es l : List En) (rest : List UInt8), (∀ e ∈ es, rightE e.i e.t e.k e.d.length = true) → readEs es.length l (es.flatMap encE ++ rest, false) = (l ++ es.map eraseE, (rest, false))
  | [], l, rest, _ => by simp [readEs]
  | e :: es, l, rest, h => by
    rw [List.flatMap_cons, List.append_assoc, List.length_cons, readEs, readE_enc (h e (by simp))]
    dsimp only
    rw [readEs_enc es _ rest (fun x hx => h x (List.mem_cons_of_mem _ hx))]
    simp
def hdOf (m : MsgM) : HdM := ⟨m.kd.toNat, m.fr.toNat, m.to.toNat, m.tm.toNat, m.ix, m.lt.toNat, (yI m.ys).toNat, m.cm.toNat, m.hn, m.rd.toNat, m.es.length⟩
theorem yI_le2 (b : Bool) : 0 ≤ yI b ∧ yI b ≤ 1 := by cases b <;> decide
theorem readH_enc {m : MsgM} (h : OkM m) (rest : List UInt8) : readH (headM m ++ rest, false) = (hdOf m, (rest, false)) := by
  obtain ⟨⟨a1, a2, a3⟩, ⟨b1, b2, b3, b4⟩, ⟨c1, c2⟩, d1, _⟩ := h
  unfold okN at b1 b2 b3 b4
  have hy := yI_le2 m.ys
  have e1 : headM m ++ rest = FieldM.num m.kd.toNat ++ (FieldM.num m.fr.toNat ++ (FieldM.num m.to.toNat ++ (FieldM.num m.tm.toNat ++ (FieldM.int m.ix ++ (FieldM.num m.lt.toNat ++ (FieldM.num (yI m.ys).toNat ++ (FieldM.num m.cm.toNat ++ (FieldM.int m.hn ++ (FieldM.num m.rd.toNat ++ (FieldM.num m.es.length ++ rest)))))))))) := by
    unfold headM nz
    simp
  rw [e1]
  unfold readH hdOf
  rw [rdn_num (by omega) (by omega)]
  dsimp only
  rw [rdn_num (by omega) (by omega)]
  dsimp only
  rw [rdn_num (by omega) (by omega)]
  dsimp only
  rw [rdn_num (by omega) (by omega)]
  dsimp only
  rw [rdi_int c1]
  dsimp only
  rw [rdn_num (by omega) (by omega)]
  dsimp only
  rw [rdn_num (by omega) (by omega)]
  dsimp only
  rw [rdn_num (by omega) (by omega)]
  dsimp only
  rw [rdi_int c2]
  dsimp only
  rw [rdn_num (by omega) (by omega)]
  dsimp only
  rw [rdn_num (by omega) (by omega)]
theorem encS_ne {i t : Int} {vs ls : List Int} {ds : List UInt8} : (encS i t vs ls ds).length ≠ 0 := by
  unfold encS
  simp [FieldM.num_length]
theorem emp_zero {m : MsgM} (h : empB m = true) : m.si = 0 ∧ m.st = 0 ∧ m.vs = [] ∧ m.ls = [] ∧ m.ds = [] := by
  unfold empB emptyS at h
  have h := of_decide_eq_true h
  exact ⟨h.1, h.2.1, List.eq_nil_of_length_eq_zero h.2.2.1, List.eq_nil_of_length_eq_zero h.2.2.2.1, List.eq_nil_of_length_eq_zero h.2.2.2.2⟩
theorem decX_body {m : MsgM} (h : rightD m = true) (hl : (bodyM m).length ≤ 65536) : decX (bodyM m) = some (erase m) := by
  have h0 := h
  unfold rightD at h0
  rw [Bool.and_eq_true, Bool.or_eq_true] at h0
  obtain ⟨hp, hs⟩ := h0
  have ok := rightP_ok hp
  have hsl : (snapB m).length ≤ 65536 := by
    have : (bodyM m).length = (headM m ++ m.es.flatMap encE).length + (FieldM.text (snapB m)).length := by unfold bodyM; rw [List.length_append]
    rw [FieldM.text_length] at this
    omega
  have e1 : bodyM m = headM m ++ (m.es.flatMap encE ++ (FieldM.text (snapB m) ++ [])) := by unfold bodyM; simp
  have r1 : readH (bodyM m, false) = (hdOf m, (m.es.flatMap encE ++ (FieldM.text (snapB m) ++ []), false)) := by rw [e1]; exact readH_enc ok _
  have r2 : readEs (hdOf m).n [] (m.es.flatMap encE ++ (FieldM.text (snapB m) ++ []), false) = (m.es.map eraseE, (FieldM.text (snapB m) ++ [], false)) := by
    have := readEs_enc m.es [] (FieldM.text (snapB m) ++ []) ok.es.2
    rwa [List.nil_append] at this
  have r3 : rdt 65536 (FieldM.text (snapB m) ++ [], false) = (snapB m, ([], false)) := rdt_text (by omega) (by omega) []
  obtain ⟨⟨a1, a2, a3⟩, ⟨b1, b2, b3, b4⟩, _, _, _⟩ := ok
  unfold okN at b1 b2 b3 b4
  have hms : ∃ c, snapOf (snapB m) = some c ∧ msgOf (hdOf m) (m.es.map eraseE) c = erase m := by
    have hy : decide ((yI m.ys).toNat = 1) = m.ys := by cases m.ys <;> rfl
    by_cases he : empB m = true
    · obtain ⟨s1, s2, s3, s4, s5⟩ := emp_zero he
      refine ⟨sc0, by unfold snapOf snapB; rw [if_pos he]; rfl, ?_⟩
      unfold msgOf erase hdOf sc0
      dsimp only
      rw [s1, s2, s3, s4, s5, hy, Int.toNat_of_nonneg (by omega), Int.toNat_of_nonneg (by omega), Int.toNat_of_nonneg (by omega), Int.toNat_of_nonneg b1.1, Int.toNat_of_nonneg b2.1, Int.toNat_of_nonneg b3.1, Int.toNat_of_nonneg b4.1]
      rfl
    · have hr : rightS m.si m.st m.vs m.ls m.ds = true := by rcases hs with h | h; exact absurd h he; exact h
      have hb : snapB m = encS m.si m.st m.vs m.ls m.ds := by unfold snapB; rw [if_neg he]
      obtain ⟨⟨g1, g2, _⟩, _⟩ := rightS_parts hr
      refine ⟨⟨m.si.toNat, m.st.toNat, m.vs, m.ls, m.ds⟩, by unfold snapOf; rw [hb, if_neg encS_ne, decS_enc hr], ?_⟩
      unfold msgOf erase hdOf
      dsimp only
      rw [hy, Int.toNat_of_nonneg (by omega), Int.toNat_of_nonneg (by omega), Int.toNat_of_nonneg (by omega), Int.toNat_of_nonneg b1.1, Int.toNat_of_nonneg b2.1, Int.toNat_of_nonneg b3.1, Int.toNat_of_nonneg b4.1, Int.toNat_of_nonneg g1.1, Int.toNat_of_nonneg g2.1]
  obtain ⟨c, hc, hm⟩ := hms
  rw [decX_of r1 r2 r3, hc]
  dsimp only
  rw [hm, rightP_erase, hp, if_pos ⟨rfl, rfl⟩]
theorem scan_own {x : List UInt8} (h : x.length ≤ 65536) : Rc.scan (Rc.rec x) = ([x], (Rc.rec x).length) := by
  have := Rc.scan_rec x [] h
  rw [List.append_nil] at this
  rw [this, Rc.rec_len]
  have e : Rc.scan [] = ([], 0) := rfl
  rw [e]
  simp
  omega
/-! ### One byte turned -/
theorem xor_ne {a t : UInt8} (h : t ≠ 0) : a ^^^ t ≠ a := by
  intro e
  apply h
  have : a ^^^ (a ^^^ t) = a ^^^ a := by rw [e]
  simpa [← UInt8.xor_assoc] using this
theorem split4b (a : List UInt8) (k : Nat) (h : k + 4 ≤ a.length) : ∃ (p q : List UInt8) (c0 c1 c2 c3 : UInt8), a = p ++ [c0, c1, c2, c3] ++ q ∧ p.length = k := by
  refine ⟨a.take k, a.drop (k + 4), a[k], a[k + 1], a[k + 2], a[k + 3], ?_, by simp; omega⟩
  have e : a.drop k = [a[k], a[k + 1], a[k + 2], a[k + 3]] ++ a.drop (k + 4) := by
    rw [List.drop_eq_getElem_cons (by omega), List.drop_eq_getElem_cons (by omega), List.drop_eq_getElem_cons (by omega), List.drop_eq_getElem_cons (by omega)]
    rfl
  rw [List.append_assoc, ← e, List.take_append_drop]
theorem burst1 (p q : List UInt8) (a b c d t : UInt8) (ht : t ≠ 0) : CrcM.sum (p ++ [a, b, c, d ^^^ t] ++ q) ≠ CrcM.sum (p ++ [a, b, c, d] ++ q) := by
  have ht0 : t.toNat ≠ 0 := fun e => ht (UInt8.toNat_inj.1 (by simpa using e))
  have hlt := t.toNat_lt
  have hT : (BitVec.ofNat 32 (t.toNat * 16777216)).toNat = t.toNat * 16777216 := by
    rw [BitVec.toNat_ofNat, Nat.mod_eq_of_lt]
    omega
  have h := CrcM.sum_burst p q a b c d (BitVec.ofNat 32 (t.toNat * 16777216)) (by
    intro e
    have := congrArg BitVec.toNat e
    rw [hT] at this
    simp at this
    omega)
  have h0 : CrcM.by0 (BitVec.ofNat 32 (t.toNat * 16777216)) = 0 := by unfold CrcM.by0; rw [hT, show t.toNat * 16777216 % 256 = 0 by omega]; rfl
  have h1 : CrcM.by1 (BitVec.ofNat 32 (t.toNat * 16777216)) = 0 := by unfold CrcM.by1; rw [hT, show t.toNat * 16777216 / 256 % 256 = 0 by omega]; rfl
  have h2 : CrcM.by2 (BitVec.ofNat 32 (t.toNat * 16777216)) = 0 := by unfold CrcM.by2; rw [hT, show t.toNat * 16777216 / 65536 % 256 = 0 by omega]; rfl
  have h3 : CrcM.by3 (BitVec.ofNat 32 (t.toNat * 16777216)) = t := by unfold CrcM.by3; rw [hT, show t.toNat * 16777216 / 16777216 % 256 = t.toNat by omega, UInt8.ofNat_toNat]
  rw [h0, h1, h2, h3, UInt8.xor_zero, UInt8.xor_zero, UInt8.xor_zero] at h
  exact fun e => h e.symm
theorem rec_parts (z : List UInt8) (j : Nat) : (j < 4 → (Rc.rec z)[j]? = (Rc.w4 z.length)[j]?) ∧ (j < 4 → (Rc.rec z)[4 + j]? = (Rc.w4 (CrcM.sum (Rc.w4 z.length ++ z)).toNat)[j]?) ∧ (Rc.rec z)[8 + j]? = z[j]? := by
  unfold Rc.rec
  refine ⟨fun h => ?_, fun h => ?_, ?_⟩
  · rw [List.getElem?_append_left (by simp [Rc.w4_len]; omega), List.getElem?_append_left (by simp [Rc.w4_len]; omega)]
  · rw [List.getElem?_append_left (by simp [Rc.w4_len]; omega), List.getElem?_append_right (by simp [Rc.w4_len])]
    simp [Rc.w4_len]
  · rw [List.getElem?_append_right (by simp [Rc.w4_len])]
    simp [Rc.w4_len]
theorem turned_none {x : List UInt8} {k : Nat} (hk : k < (Rc.rec x).length) {t : UInt8} (ht : t ≠ 0) (hx : x.length ≤ 65536) : decM ((Rc.rec x).set k ((Rc.rec x)[k] ^^^ t)) = none := by
  refine decM_no ?_
  rintro ⟨y, hy⟩
  have h1 := (Rc.recs_scan ((Rc.rec x).set k ((Rc.rec x)[k] ^^^ t))).1
  rw [hy] at h1
  dsimp only at h1
  have h3 : Rc.recs [y] = Rc.rec y := by simp [Rc.recs]
  rw [h3, List.take_length] at h1
  have hlen : y.length = x.length := by
    have := congrArg List.length h1
    rw [List.length_set, Rc.rec_len, Rc.rec_len] at this
    omega
  have hne := xor_ne (a := (Rc.rec x)[k]) ht
  generalize hv : (Rc.rec x)[k] ^^^ t = v at h1 hne
  have hxk : (Rc.rec x)[k]? = some (Rc.rec x)[k] := List.getElem?_eq_getElem hk
  have hyk : (Rc.rec y)[k]? = some v := by rw [h1, List.getElem?_set_self hk]
  have hoth : ∀ j, k ≠ j → (Rc.rec y)[j]? = (Rc.rec x)[j]? := fun j hj => by rw [h1, List.getElem?_set_ne hj]
  have hno : (Rc.rec y)[k]? ≠ (Rc.rec x)[k]? := by
    rw [hyk, hxk]
    intro e
    exact hne (Option.some.inj e)
  rw [Rc.rec_len] at hk
  rcases Nat.lt_or_ge k 4 with k4 | k4
  · exact hno (by rw [(rec_parts y k).1 k4, (rec_parts x k).1 k4, hlen])
  rcases Nat.lt_or_ge k 8 with k8 | k8
  · have e : y = x := List.ext_getElem? fun i => by rw [← (rec_parts y i).2.2, ← (rec_parts x i).2.2]; exact hoth _ (by omega)
    exact hno (by rw [e])
  · obtain ⟨i, rfl⟩ : ∃ i, k = 8 + i := ⟨k - 8, by omega⟩
    have hi : i < x.length := by omega
    have hvi : v = x[i] ^^^ t := by
      rw [← hv]
      have : (Rc.rec x)[8 + i]? = some x[i] := by rw [(rec_parts x i).2.2]; exact List.getElem?_eq_getElem hi
      rw [hxk] at this
      rw [Option.some.inj this]
    have hyx : y = x.set i v := List.ext_getElem? fun j => by
      rw [← (rec_parts y j).2.2]
      by_cases hj : i = j
      · subst hj
        rw [hyk, List.getElem?_set_self hi]
      · rw [hoth _ (by omega), (rec_parts x j).2.2, List.getElem?_set_ne hj]
    have hw : Rc.w4 (CrcM.sum (Rc.w4 y.length ++ y)).toNat = Rc.w4 (CrcM.sum (Rc.w4 x.length ++ x)).toNat := by
      refine List.ext_getElem? fun j => ?_
      rcases Nat.lt_or_ge j 4 with hj | hj
      · rw [← (rec_parts y j).2.1 hj, ← (rec_parts x j).2.1 hj]
        exact hoth _ (by omega)
      · rw [List.getElem?_eq_none (by simp [Rc.w4_len]; omega), List.getElem?_eq_none (by simp [Rc.w4_len]; omega)]
    have hs := Rc.w4_inj (CrcM.sum (Rc.w4 y.length ++ y)).isLt (CrcM.sum (Rc.w4 x.length ++ x)).isLt hw
    have hs := BitVec.eq_of_toNat_eq hs
    obtain ⟨p, q, a, b, c, d, hS, hp⟩ := split4b (Rc.w4 x.length ++ x) (i + 1) (by simp [Rc.w4_len]; omega)
    have hd : d = x[i] := by
      have e1 : (Rc.w4 x.length ++ x)[i + 4]? = some d := by
        rw [hS, List.append_assoc, List.getElem?_append_right (by omega), hp, show i + 4 - (i + 1) = 3 by omega]
        rfl
      rw [List.getElem?_append_right (by simp [Rc.w4_len]), Rc.w4_len, show i + 4 - 4 = i by omega, List.getElem?_eq_getElem hi] at e1
      exact (Option.some.inj e1).symm
    have hS2 : Rc.w4 x.length ++ y = p ++ [a, b, c, d ^^^ t] ++ q := by
      have e2 : Rc.w4 x.length ++ y = (Rc.w4 x.length ++ x).set (i + 4) v := by
        rw [hyx, List.set_append_right _ _ (by simp [Rc.w4_len]), Rc.w4_len, show i + 4 - 4 = i by omega]
      rw [e2, hS, List.append_assoc, List.set_append_right _ _ (by omega), hp, show i + 4 - (i + 1) = 3 by omega, hvi, hd]
      simp
    rw [hlen, hS2, hS] at hs
    exact burst1 p q a b c d t ht hs
end Go.Proofs.Ytlceembcehokoaa
namespace Go.Proofs.Ytlceembcehokoaa
open Go.RowKit ReadM
set_option linter.unusedVariables false
set_option maxRecDepth 100000

theorem body_pos (m : MsgM) : 1 ≤ (bodyM m).length := by
  unfold bodyM
  rw [List.length_append, FieldM.text_length]
  omega
theorem info_by : (Try.prog.info? 5).map (fun i => (i.zero, i.size, i.bytes)) = some (some (.int .u8 0), 1, 1) := by kernel_rfl
theorem bv_ones (l : List UInt8) : ∀ u ∈ l.map bv, u.oneCell' = true := fun u hu => by
  obtain ⟨b, _, rfl⟩ := List.mem_map.1 hu
  rfl
theorem xor_one (a t : UInt8) : bits .xor .u8 (a.toNat : Int) (t.toNat : Int) = ((a ^^^ t).toNat : Int) := by
  have h := u8_xor_nat a.toNat t.toNat a.toNat_lt t.toNat_lt
  rw [UInt8.toNat_xor]
  exact h
theorem decM_own {m : MsgM} (h : rightD m = true) (hl : (bodyM m).length ≤ 65536) : decM (Rc.rec (bodyM m)) = some (erase m) := by
  rw [decM_one (scan_own hl)]
  exact decX_body h hl
theorem set_bv (l : List UInt8) (k : Nat) (b : UInt8) : (l.map bv).set k (.int .u8 (b.toNat : Int)) = (l.set k b).map bv := by
  rw [List.map_set]
  rfl
set_option maxHeartbeats 16000000 in
theorem back_law (w : World) (m : MsgM) (h : RdM0 w m) (z : Int) (hz2 : z ≤ 9223372036854775807) (t : UInt8) :
    Calls Try.prog 5 #[.agg (mcells m), .int .i64 z, .int .u8 (t.toNat : Int)] w fun e w' => e = .returned (.bool true) ∧ Below w.heap.size w w' := by
  obtain ⟨cs, hcs⟩ : ∃ cs : List Value, cs = (mcells m).toList := ⟨_, rfl⟩
  have HCS := Lib.hid hcs
  obtain ⟨W, hW⟩ : ∃ W, w.alloc (.cells cs.toArray 30) = W := ⟨_, rfl⟩
  have HF : Hid (Fresh w W) := Lib.hid (by rw [← hW]; exact (Frm.refl _ w).alloc _)
  have hBX : Blk W w.heap.size 30 cs.toArray := by rw [← hW]; exact Blk.new w _ _
  have HBX : Hid (∀ w', Fresh W w' → Blk w' w.heap.size 30 cs.toArray) := Lib.hid fun w' F => hBX.frm F (fun f => f)
  have HCI : Hid ((Try.prog.info? 30).map (·.size) = some cs.length) := Lib.hid (by rw [hcs]; kernel_rfl)
  have HH := Lib.hid h
  have HAW := Lib.hid (awake_any W)
  have HMU : Hid (∀ w', Fresh w w' → Calls Try.prog 11 #[.agg cs.toArray] w' fun e w'' => e = .returned (.bool (muchB m)) ∧ Fresh w' w'') := Lib.hid fun w' F => by rw [hcs]; exact much_any w' m (h.fresh F)
  have HEN : Hid (∀ w', Fresh w w' → muchB m = false → Calls Try.prog 12 #[.agg cs.toArray] w' fun e w'' => EncMPost w' m e w'') := Lib.hid fun w' F hm => by rw [hcs]; exact netEncode_any w' m ((h.fresh F).more hm)
  rw [show mcells m = cs.toArray by rw [hcs]]
  clear hcs h hBX
  go_enter Try.func5, Try.ntmps5
  go_wp2_with fail
  first | rw [hW] | skip
  clear hW
  refine HAW.out.mono ?_
  rintro e w1 ⟨rfl, f1⟩
  have HF1 := Lib.hid f1
  have HC1 : Hid (w1.rangeAt w.heap.size 0 cs) := Lib.hid (by intro j v hv; rw [Nat.zero_add, (HBX.out _ HF1.out).cell j]; simpa using hv)
  have HM1 := Lib.hid (HMU.out w1 (HF.out.trans f1))
  obtain ⟨mu, hmu⟩ : ∃ b, b = muchB m := ⟨_, rfl⟩
  rw [← hmu] at HM1
  have HMB := Lib.hid hmu
  clear f1 hmu HAW
  go_wp2_with (with_reducible refine wpList_load_mid rfl 30 (.tmp 3) rfl w.heap.size 0 rfl cs _ HC1.out Try.underlying30 rfl HCI.out ?_)
  refine HM1.out.mono ?_
  rintro e w2 ⟨rfl, f2⟩
  have HF2 := Lib.hid (HF1.out.trans f2)
  have HC2 : Hid (w2.rangeAt w.heap.size 0 cs) := Lib.hid (by intro j v hv; rw [Nat.zero_add, (HBX.out _ HF2.out).cell j]; simpa using hv)
  clear f2 HC1 HM1
  cases mu with
  | true =>
    go_wp2_with fail
    go_ret
    exact ⟨rfl, Fresh.below (HF.out.trans HF2.out)⟩
  | false =>
    by_cases hz : z < 0
    · have d1 : decide (z < 0) = true := decide_eq_true hz
      go_wp2_with fail
      go_ret
      exact ⟨rfl, Fresh.below (HF.out.trans HF2.out)⟩
    · have d1 : decide (z < 0) = false := decide_eq_false hz
      have HE2 := Lib.hid (HEN.out w2 (HF.out.trans HF2.out) HMB.out.symm)
      have HRM : Hid (∀ w', Fresh W w' → RdM w' m) := Lib.hid fun w' F => (HH.out.fresh (HF.out.trans F)).more HMB.out.symm
      go_wp2_with (with_reducible refine wpList_load_mid rfl 30 (.tmp 3) rfl w.heap.size 0 rfl cs _ HC2.out Try.underlying30 rfl HCI.out ?_)
      refine HE2.out.mono ?_
      rintro e w3 h3
      unfold EncMPost EncOut at h3
      clear HE2 HC2
      rcases h3 with ⟨_, rfl, f3⟩ | ⟨hr, ⟨hl, v, rfl, hs, f3⟩ | ⟨_, rfl, f3⟩⟩
      · have HF3 := Lib.hid (HF2.out.trans f3)
        clear f3
        go_wp2_with fail
        go_ret
        exact ⟨by first | rfl | simp, Fresh.below (HF.out.trans HF3.out)⟩
      rotate_left 1
      · have HF3 := Lib.hid (HF2.out.trans f3)
        clear f3
        go_wp2_with fail
        go_ret
        exact ⟨by first | rfl | simp, Fresh.below (HF.out.trans HF3.out)⟩
      have HF3 := Lib.hid (HF2.out.trans f3)
      obtain ⟨A1, c1, hv, hle1, hm1, _⟩ := hs.shape
      obtain ⟨bs, hbs⟩ : ∃ bs, bs = Rc.rec (bodyM m) := ⟨_, rfl⟩
      obtain ⟨bn, hbn⟩ : ∃ n, n = (bodyM m).length + 8 := ⟨_, rfl⟩
      have hbl : bs.length = bn := by rw [hbs, hbn, Rc.rec_len]
      have hb9 : 9 ≤ bn := by have := body_pos m; omega
      have hbm : bn ≤ 65544 := by omega
      rw [← hbs, ← hbn] at hs
      rw [← hbn] at hv hle1
      subst hv
      have HDM : Hid (decM bs = some (erase m)) := Lib.hid (by rw [hbs]; exact decM_own hr hl)
      have HTN : Hid (∀ k (hk : k < bs.length), t ≠ 0 → decM (bs.set k (bs[k] ^^^ t)) = none) := Lib.hid (by rw [hbs]; exact fun k hk ht => turned_none hk ht hl)
      have HS3 := Lib.hid hs
      have HBL := Lib.hid hbl
      have HD3 := Lib.hid (netDecode_any w3 A1 c1 bs hs.rd (by omega) (by omega) hm1)
      rw [HBL.out, HDM.out] at HD3
      unfold NDPost at HD3
      clear f3 hs hbs hbn hbl hr hl
      go_wp2_with fail
      refine HD3.out.mono ?_
      rintro e w4 ⟨m2, he2, rfl, r2, f4⟩
      have HF4 := Lib.hid (HF3.out.trans f4)
      have HS4 := Lib.hid (HS3.out.fresh f4)
      have HR2 := Lib.hid r2
      have HE2 := Lib.hid he2
      obtain ⟨ca, hca⟩ : ∃ cs : List Value, cs = (mcells m2).toList := ⟨_, rfl⟩
      rw [show (mcells m2) = ca.toArray by rw [hca]]
      have HCA := Lib.hid hca
      clear hca f4 r2 he2 HD3
      obtain ⟨p4, hp4⟩ : ∃ p, w4.heap.size = p := ⟨_, rfl⟩
      obtain ⟨W4, hW4⟩ : ∃ W, w4.alloc (.cells #[.int .i64 0, .int .i64 0, .int .i64 0, .int .i64 0, .int .i64 0, .int .i64 0, .bool false, .int .i64 0, .int .i64 0, .int .i64 0, .slice none 0 0, .int .i64 0, .int .i64 0, .slice none 0 0, .slice none 0 0, .slice none 0 0] 30) = W := ⟨_, rfl⟩
      have HBW4 : Hid (Blk W4 p4 30 #[.int .i64 0, .int .i64 0, .int .i64 0, .int .i64 0, .int .i64 0, .int .i64 0, .bool false, .int .i64 0, .int .i64 0, .int .i64 0, .slice none 0 0, .int .i64 0, .int .i64 0, .slice none 0 0, .slice none 0 0, .slice none 0 0]) := Lib.hid (by rw [← hW4, ← hp4]; exact Blk.new w4 _ _)
      obtain ⟨X4, hX4⟩ : ∃ X, W4.setCells p4 0 ca = X := ⟨_, rfl⟩
      have FX4 : Hid (Fresh w4 X4) := Lib.hid (by
        have F1 : Fresh w4 W4 := by rw [← hW4]; exact ((Frm.refl _ w4).alloc _)
        rw [← hX4]
        exact F1.trans' (frm_setCells p4 ca 0 W4) (fun k hk e => by omega))
      have HBX4 : Hid (Blk X4 p4 30 ca.toArray) := Lib.hid (by rw [← hX4]; exact blk_setAll HBW4.out (by rw [HCA.out]; rfl))
      have HFX4 := Lib.hid (HF4.out.trans FX4.out)
      have HTH4 : Hid (W4.there p4 0 ca.toArray.size) := Lib.hid (by rw [HCA.out]; exact HBW4.out.there rfl)
      have HTI4 : Hid ((Try.prog.info? 30).map (·.size) = some ca.toArray.size) := Lib.hid (by rw [HCA.out]; kernel_rfl)
      have HTO4 : Hid (ca.toArray.all (·.oneCell') = true) := Lib.hid (by rw [HCA.out]; kernel_rfl)
      clear HBW4
      have HSM : Hid (Calls Try.prog 16 #[.agg ca.toArray, .agg cs.toArray] X4 fun e w' => e = .returned (.bool true) ∧ Fresh X4 w') := Lib.hid (by rw [HCA.out, HCS.out]; exact sameMsg_eq X4 m2 m (HR2.out.fresh FX4.out) (HRM.out _ HFX4.out) HE2.out)
      have HCL : Hid (X4.rangeAt p4 0 ca) := Lib.hid (by intro j v hv; rw [Nat.zero_add, HBX4.out.cell j]; simpa using hv)
      have HCJ : Hid ((Try.prog.info? 30).map (·.size) = some ca.length) := Lib.hid (by rw [HCA.out]; kernel_rfl)
      have HCM : Hid (X4.rangeAt w.heap.size 0 cs) := Lib.hid (by intro j v hv; rw [Nat.zero_add, (HBX.out _ HFX4.out).cell j]; simpa using hv)
      go_wp2_with (first | (with_reducible refine wpList_store_mid rfl 30 (.tmp 11) (.tmp 47) rfl p4 0 ca.toArray rfl rfl HTH4.out HTI4.out HTO4.out ?_) | (rw [hW4, hp4]; with_reducible refine wpList_store_mid rfl 30 (.tmp 11) (.tmp 47) rfl p4 0 ca.toArray rfl rfl HTH4.out HTI4.out HTO4.out ?_) | (rw [hp4, hW4]; with_reducible refine wpList_store_mid rfl 30 (.tmp 11) (.tmp 47) rfl p4 0 ca.toArray rfl rfl HTH4.out HTI4.out HTO4.out ?_) | (rw [hW4]; with_reducible refine wpList_store_mid rfl 30 (.tmp 11) (.tmp 47) rfl p4 0 ca.toArray rfl rfl HTH4.out HTI4.out HTO4.out ?_) | (rw [hp4]; with_reducible refine wpList_store_mid rfl 30 (.tmp 11) (.tmp 47) rfl p4 0 ca.toArray rfl rfl HTH4.out HTI4.out HTO4.out ?_) | (with_reducible refine wpList_load_mid rfl 30 (.tmp 11) rfl p4 0 rfl ca _ HCL.out Try.underlying30 rfl HCJ.out ?_) | (with_reducible refine wpList_load_mid rfl 30 (.tmp 3) rfl w.heap.size 0 rfl cs _ HCM.out Try.underlying30 rfl HCI.out ?_) | (rw [show W4.setCells p4 0 ca.toArray.toList = X4 from hX4]; first | (with_reducible refine wpList_load_mid rfl 30 (.tmp 11) rfl p4 0 rfl ca _ HCL.out Try.underlying30 rfl HCJ.out ?_) | (with_reducible refine wpList_load_mid rfl 30 (.tmp 3) rfl w.heap.size 0 rfl cs _ HCM.out Try.underlying30 rfl HCI.out ?_)))
      clear hX4 hW4 hp4 HCL HCJ HCM
      refine HSM.out.mono ?_
      rintro e w5 ⟨rfl, f5⟩
      have HF5 := Lib.hid (HFX4.out.trans f5)
      have HS5 := Lib.hid (HS4.out.fresh (FX4.out.trans f5))
      clear f5 HSM
      have l9 : decide ((bn : Int) < 9) = false := decide_eq_false (by omega)
      obtain ⟨k, hk⟩ : ∃ k, z.toNat % bn = k := ⟨_, rfl⟩
      have hkl : k < bn := by rw [← hk]; exact Nat.mod_lt _ (by omega)
      have s3 : z.tmod (bn : Int) = (k : Int) := by rw [Int.tmod_eq_emod_of_nonneg (by omega), ← hk, Int.natCast_emod, Int.toNat_of_nonneg (by omega)]
      have s6 : ((bn : Int) == 0) = false := by rw [beq_eq_false_iff_ne]; omega
      have s7 : ¬ ((bn : Int) = 0) := by omega
      have S0 : Hid (Sl (w5.alloc (.cells #[] 5)) w5.heap.size 5 1 (.slice (some ⟨w5.heap.size, 0, none⟩) 0 0) 0 []) := Lib.hid (sl_new w5 _ [] _ (Nat.le_refl _) (by simp [maxLen]))
      have R1 := Lib.hid ((HS5.out.alloc (.cells #[] 5)).rd)
      obtain ⟨i0, hi, hy0, hy1, hy2⟩ := info_parts info_by
      clear hk
      go_wp2_with (at_builtin; refine wpList_append_sl _ rfl (.tmp 63) (.tmp 64) _ rfl w5.heap.size 5 i0 _ 1 1 Try.underlying26 hi hy0 hy1 hy2 rfl (by omega) _ _ _ rfl S0.out _ _ _ _ _ rfl (by rw [List.length_map]; have := HBL.out; omega) R1.out (bv_ones _) (by unfold maxLen; omega) (by omega) (by simp) ?_; intro v6 w6 hs1 hf1 ha1)
      rw [Nat.zero_add, List.nil_append] at hs1
      have F6 : Fresh w5 w6 := ((Frm.refl _ w5).alloc _).trans' hf1 (fun i hi hk => by have := own_at hk; omega)
      obtain ⟨g, oo, cap6, rfl, hg, hgl, hcap6, hmax6⟩ := hs1.head (by omega)
      have hkb : k < bs.length := by rw [HBL.out]; exact hkl
      have ck : w6.cell? ⟨g, oo + k, none⟩ = some (.int .u8 ((bs[k]).toNat : Int)) := by
        have := hs1.cell (j := k) (by rw [List.length_map]; exact hkb)
        rw [List.getElem_map] at this
        exact this
      have fk : w6.frozen? ⟨g, oo + k, none⟩ = false := hs1.frozen _
      have x0 := xor_one bs[k] t
      have HTK := Lib.hid (HTN.out k hkb)
      have hst := hs1.store (j := k) (by rw [List.length_map]; exact hkb) (.int .u8 ((bs[k] ^^^ t).toNat : Int))
      rw [set_bv] at hst
      obtain ⟨w7, hw7⟩ : ∃ w7, w6.setCell ⟨g, oo + k, none⟩ (.int .u8 ((bs[k] ^^^ t).toNat : Int)) = w7 := ⟨_, rfl⟩
      have F7 : Fresh w5 w7 := by rw [← hw7]; exact F6.setCell (p := ⟨g, oo + k, none⟩) (fun h => by simp at h; omega) _
      rw [hw7] at hst
      generalize bs[k] = b0 at ck x0 HTK hst hw7
      generalize b0 ^^^ t = b1 at x0 HTK hst hw7
      have hls : (bs.set k b1).length = bn := by rw [List.length_set, HBL.out]
      have HD7 := Lib.hid (netDecode_any w7 (some ⟨g, oo, none⟩) cap6 (bs.set k b1) hst.rd (by omega) (by omega) hmax6)
      rw [hls] at HD7
      have HF7 := Lib.hid (HF5.out.trans F7)
      have hkn : (k : Int) < (bn : Int) := by omega
      have hk0 : (0 : Int) ≤ (k : Int) := by omega
      clear hs1 hf1 ha1 F6 F7 hst hls hkb hmax6 hcap6 s6 s7 l9 d1
      go_simp
      go_wp2_with fail
      clear hw7 ck fk x0 s3
      refine HD7.out.mono ?_
      rintro e w8 h8
      obtain ⟨m3, y3, rfl, r3, f8, hy3, _⟩ := h8.two
      obtain ⟨cb, hcb⟩ : ∃ cs : List Value, cs = (mcells m3).toList := ⟨_, rfl⟩
      rw [show (mcells m3) = cb.toArray by rw [hcb]]
      have HCB := Lib.hid hcb
      have HF8 := Lib.hid (HF7.out.trans f8)
      have HY3 := Lib.hid hy3
      clear hcb f8 r3 hy3 h8 HD7
      obtain ⟨p8, hp8⟩ : ∃ p, w8.heap.size = p := ⟨_, rfl⟩
      obtain ⟨W8, hW8⟩ : ∃ W, w8.alloc (.cells #[.int .i64 0, .int .i64 0, .int .i64 0, .int .i64 0, .int .i64 0, .int .i64 0, .bool false, .int .i64 0, .int .i64 0, .int .i64 0, .slice none 0 0, .int .i64 0, .int .i64 0, .slice none 0 0, .slice none 0 0, .slice none 0 0] 30) = W := ⟨_, rfl⟩
      have HBW8 : Hid (Blk W8 p8 30 #[.int .i64 0, .int .i64 0, .int .i64 0, .int .i64 0, .int .i64 0, .int .i64 0, .bool false, .int .i64 0, .int .i64 0, .int .i64 0, .slice none 0 0, .int .i64 0, .int .i64 0, .slice none 0 0, .slice none 0 0, .slice none 0 0]) := Lib.hid (by rw [← hW8, ← hp8]; exact Blk.new w8 _ _)
      obtain ⟨X8, hX8⟩ : ∃ X, W8.setCells p8 0 cb = X := ⟨_, rfl⟩
      have FX8 : Hid (Fresh w8 X8) := Lib.hid (by
        have F1 : Fresh w8 W8 := by rw [← hW8]; exact ((Frm.refl _ w8).alloc _)
        rw [← hX8]
        exact F1.trans' (frm_setCells p8 cb 0 W8) (fun k hk e => by omega))
      have HBX8 : Hid (Blk X8 p8 30 cb.toArray) := Lib.hid (by rw [← hX8]; exact blk_setAll HBW8.out (by rw [HCB.out]; rfl))
      have HFX8 := Lib.hid (HF8.out.trans FX8.out)
      have HTH8 : Hid (W8.there p8 0 cb.toArray.size) := Lib.hid (by rw [HCB.out]; exact HBW8.out.there rfl)
      have HTI8 : Hid ((Try.prog.info? 30).map (·.size) = some cb.toArray.size) := Lib.hid (by rw [HCB.out]; kernel_rfl)
      have HTO8 : Hid (cb.toArray.all (·.oneCell') = true) := Lib.hid (by rw [HCB.out]; kernel_rfl)
      clear HBW8
      by_cases ht : t = 0
      · have t0 : ((t.toNat : Int) == 0) = true := by rw [ht]; rfl
        have t1 : (t.toNat : Int) = 0 := by rw [ht]; rfl
        clear ht
        go_wp2_with (first | (with_reducible refine wpList_store_mid rfl 30 (.tmp 16) (.tmp 80) rfl p8 0 cb.toArray rfl rfl HTH8.out HTI8.out HTO8.out ?_) | (rw [hW8, hp8]; with_reducible refine wpList_store_mid rfl 30 (.tmp 16) (.tmp 80) rfl p8 0 cb.toArray rfl rfl HTH8.out HTI8.out HTO8.out ?_) | (rw [hp8, hW8]; with_reducible refine wpList_store_mid rfl 30 (.tmp 16) (.tmp 80) rfl p8 0 cb.toArray rfl rfl HTH8.out HTI8.out HTO8.out ?_) | (rw [hW8]; with_reducible refine wpList_store_mid rfl 30 (.tmp 16) (.tmp 80) rfl p8 0 cb.toArray rfl rfl HTH8.out HTI8.out HTO8.out ?_) | (rw [hp8]; with_reducible refine wpList_store_mid rfl 30 (.tmp 16) (.tmp 80) rfl p8 0 cb.toArray rfl rfl HTH8.out HTI8.out HTO8.out ?_))
        go_ret
        exact ⟨by first | rfl | simp, Fresh.below (HF.out.trans HFX8.out)⟩
      · have hy : y3 = 6 := by rw [HY3.out, HTK.out ht]; rfl
        subst hy
        have t0 : ((t.toNat : Int) == 0) = false := by
          rw [beq_eq_false_iff_ne]
          intro e
          exact ht (UInt8.toNat_inj.1 (by simpa using e))
        clear ht
        go_wp2_with (first | (with_reducible refine wpList_store_mid rfl 30 (.tmp 16) (.tmp 80) rfl p8 0 cb.toArray rfl rfl HTH8.out HTI8.out HTO8.out ?_) | (rw [hW8, hp8]; with_reducible refine wpList_store_mid rfl 30 (.tmp 16) (.tmp 80) rfl p8 0 cb.toArray rfl rfl HTH8.out HTI8.out HTO8.out ?_) | (rw [hp8, hW8]; with_reducible refine wpList_store_mid rfl 30 (.tmp 16) (.tmp 80) rfl p8 0 cb.toArray rfl rfl HTH8.out HTI8.out HTO8.out ?_) | (rw [hW8]; with_reducible refine wpList_store_mid rfl 30 (.tmp 16) (.tmp 80) rfl p8 0 cb.toArray rfl rfl HTH8.out HTI8.out HTO8.out ?_) | (rw [hp8]; with_reducible refine wpList_store_mid rfl 30 (.tmp 16) (.tmp 80) rfl p8 0 cb.toArray rfl rfl HTH8.out HTI8.out HTO8.out ?_))
        go_ret
        exact ⟨by first | rfl | simp, Fresh.below (HF.out.trans HFX8.out)⟩
theorem back_walk (w : World) (a : MRaw) (h : mrq w a) (z : Int) (wz : (Lit.int .i64 z).wf = true) (t : Int) (wt : (Lit.int .u8 t).wf = true) : Calls Try.prog 5 #[.agg (mrf a).toArray, .int .i64 z, .int .u8 t] w fun e w' => e = .returned (.bool true) ∧ Below w.heap.size w w' := by
  obtain ⟨m, h1, h2⟩ := to_msg h
  have hz : -9223372036854775808 ≤ z ∧ z ≤ 9223372036854775807 := by simpa [Lit.wf, IntKind.min, IntKind.max, IntKind.signed, IntKind.bits] using wz
  have ht : 0 ≤ t ∧ t ≤ 255 := by simpa [Lit.wf, IntKind.min, IntKind.max, IntKind.signed, IntKind.bits] using wt
  have e : t = ((UInt8.ofNat t.toNat).toNat : Int) := by rw [UInt8.toNat_ofNat']; omega
  rw [h1, e]
  exact back_law w m h2 z hz.2 _
end Go.Proofs.Ytlceembcehokoaa

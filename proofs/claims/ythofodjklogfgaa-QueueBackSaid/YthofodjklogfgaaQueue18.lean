/- Add of the document's list. (Printed by gen18.py.) -/
import Derived.Test.YthofodjklogfgaaQueue17
import Derived.Deep.RegionHeld3
namespace Go.Proofs.Ythofodjklogfgaa
open Go.RowKit QueueM
attribute [local go_sem] run_store_float

theorem step_append_sl {P : Program} {w : World} {ops : Array Oper} {o : Oper} {a : Act} {K : Act → World → Prop} {Q : Exit → Act → World → Prop} {E : Prop} (hgd : o.guard = none) (s x : Operand) (t : TypeId)
    (ho : o.op = .call { callee := .builtin .append, args := #[s, x], argTypes := #[t, t] })
    (B : Nat) (e : TypeId) (i : TypeInfo) (z : Value) (size bytes : Nat) (ht : P.underlying t = some (.slice e)) (hi : P.info? e = some i) (hz : i.zero = some z)
    (hsize : i.size = size) (hby : i.bytes = bytes) (hzs : z.cells.size = size) (hsz : 0 < size)
    (v : Value) (n : Nat) (xs : List Value) (hs : a.eval s = v) (hown : Sl w B e size v n xs)
    (B' : Nat) (A : Option Addr) (m c : Nat) (news : List Value) (hx : a.eval x = .slice A m c) (hl : news.length = m * size) (hr : Rd w B' A news) (h1 : ∀ u ∈ news, u.oneCell' = true)
    (h63 : n + m ≤ maxLen) (hbytes : (n + m) * bytes ≤ 140737488355328) (hB : B ≤ w.heap.size)
    (h : ∀ v' w', Sl w' B e size v' (n + m) (xs ++ news) → Frm (fun k => v.ownBlock = some k) w w' → (v'.ownBlock = v.ownBlock ∨ v'.ownBlock = some w.heap.size) → K (a.put o.dst v') w') :
    if Region.wanted o (yielded ops a.tmps) = true then Oper.wp P o a w K Q else E := by
  have hw : Region.wanted o (yielded ops a.tmps) = true := by simp [Region.wanted, hgd]
  rw [if_pos hw]
  obtain ⟨v', w', hrun, h2, h3, h4⟩ := run_append_sl (P := P) w B t o.type e i z size bytes ht hi hz hsize hby hzs hsz v n xs hown B' A m c news hl hr h1 h63 hbytes hB
  unfold Oper.wp execOp
  simp only [ho, resolve, invoke, builtin, Sem.run_bind, Sem.run_pure, Result.andThen_ok, List.map_toArray, List.map_cons, List.map_nil, hs, hx, hrun]
  exact h v' w' h2 h3 h4

theorem IsR.fresh {w w' : World} {B b : Nat} {v : Value} {l : List Wt} (h : IsR w B b v l) (F : Fresh w w') : IsR w' B b v l := ⟨h.blk.frm F (fun f => f), h.ge, h.sl.fresh F⟩
theorem IsR.less {w : World} {B B' b : Nat} {v : Value} {l : List Wt} (h : IsR w B b v l) (hB : B' ≤ B) : IsR w B' b v l := ⟨h.blk, Nat.le_trans hB h.ge, h.sl.less hB⟩
/-- what a step leaves: the list's own block alone has turned -/
def StepR (w : World) (B b : Nat) (l : List Wt) (w' : World) : Prop := ∃ v', IsR w' B b v' l ∧ Frm (fun k => k = b) w w'
theorem StepR.still {w w' : World} {B b : Nat} {v : Value} {l : List Wt} (h : IsR w B b v l) (F : Fresh w w') : StepR w B b l w' := ⟨v, h.fresh F, F.frm⟩
theorem putR {w w1 : World} {B b n : Nat} {v v' : Value} {xs : List Value} (hB : B ≤ b) (F : Fresh w w1) (hb : Blk w1 b 44 #[v]) (hs : Sl w1 B 28 5 v' n xs) :
    Blk (w1.setCell ⟨b, 0, none⟩ v') b 44 #[v'] ∧ Sl (w1.setCell ⟨b, 0, none⟩ v') B 28 5 v' n xs ∧ Frm (fun k => k = b) w (w1.setCell ⟨b, 0, none⟩ v') := by
  have hap := hs.apart hb (by decide)
  refine ⟨hb.set 0 v', hs.frm ((Frm.refl (fun k => k = b) w1).setCell (p := ⟨b, 0, none⟩) (fun _ => rfl) v') (fun k hk h => ?_), (show Frm (fun k => k = b) w w1 from F.frm).setCell (p := ⟨b, 0, none⟩) (fun _ => rfl) v'⟩
  subst h
  exact hap hk
theorem sl_zero (w : World) (B : Nat) (hB : B ≤ w.heap.size) : Sl (w.alloc (.cells #[] 28)) B 28 5 (.slice (some ⟨w.heap.size, 0, none⟩) 0 0) 0 [] :=
  Sl.mk' hB (Blk.new w _ _) (by simp) (Nat.le_refl _) (by unfold maxLen; omega) (by simp) (fun j u hu => by simp at hu)
theorem ins_parts {x : Wt} {l : List Wt} : (ins x l).flatMap wcells = [] ++ (l.take (cnt x l)).flatMap wcells ++ wcells x ++ (l.drop (cnt x l)).flatMap wcells := by
  rw [wcells_ins, wcells_take, wcells_drop, List.nil_append]
theorem rd_drop {w : World} {B bl ol k : Nat} {xs : List Value} (h : Rd w B (some ⟨bl, ol, none⟩) xs) : Rd w B (some ⟨bl, ol + k, none⟩) (xs.drop k) := fun hx => by
  obtain ⟨b, o, hA, hb, hc⟩ := h (by rintro rfl; simp at hx)
  injection hA with hA
  injection hA with h1 h2
  subst h1 h2
  exact ⟨bl, ol + k, rfl, hb, fun j u hu => by rw [Nat.add_assoc]; exact hc _ u (by rw [← hu, List.getElem?_drop])⟩
def AddPostR (w : World) (B b : Nat) (x : Wt) (l : List Wt) (e : Ending) (w' : World) : Prop :=
  e = .returned (.int .i64 (add x l).1) ∧ StepR w B b (add x l).2 w'
set_option maxRecDepth 100000 in
set_option maxHeartbeats 8000000 in
theorem refAdd_any (w : World) (B b : Nat) (v : Value) (l : List Wt) (x : Wt) (h : IsR w B b v l) (hl : QueueM.Good l) :
    Calls Try.prog 30 #[.pointer (some ⟨b, 0, none⟩), wagg x] w fun e w' => AddPostR w B b x l e w' := by
  obtain ⟨i0, hi, hz0, hz1, hz2⟩ := info_parts info_a
  have hlen := hl.few
  have HG := Lib.hid hl
  have HQ := Lib.hid h
  clear hl h
  have HR : Hid (∀ w, Calls Try.prog 53 #[.agg #[.int .i64 x.id, .int .i64 x.cls, .int .i64 x.many, .int .i64 x.time, .float .f64 x.score]] w fun e w' => e = .returned (.bool (right x)) ∧ Fresh w w') := Lib.hid fun w => refRight_any x w
  have HAH : Hid (∀ (a : Wt) (w : World), Calls Try.prog 14 #[wagg a, .agg #[.int .i64 x.id, .int .i64 x.cls, .int .i64 x.many, .int .i64 x.time, .float .f64 x.score]] w fun e w' => e = .returned (.bool (QueueM.ahead a x)) ∧ Fresh w w') := Lib.hid fun a w => refAhead_any a x w
  have HX1 : Hid (∀ u ∈ wcells x, u.oneCell' = true) := Lib.hid (by have := wcells_one [x]; simpa using this)
  have HADD := Lib.hid (show add x l = if right x = true then (if has x.id l = true then (7, l) else if 200 ≤ l.length then (3, l) else (0, ins x l)) else (1, l) from rfl)
  have HPARTS := Lib.hid (ins_parts (x := x) (l := l))
  have HCL := cnt_le x l
  have HINL := Lib.hid (ins_length x l)
  have HAT : Hid (∀ i (hi : i < l.length), QueueM.ahead l[i] x = decide (i < cnt x l)) := Lib.hid fun i hi => ahead_pos HG.out.sorted x i hi
  obtain ⟨cn, hcn⟩ : ∃ cn, cn = cnt x l := ⟨_, rfl⟩
  rw [← hcn] at HCL HPARTS HAT
  clear hcn
  unfold wagg
  obtain ⟨A, cap, rfl, hnc, hcm, _⟩ := HQ.out.sl.shape
  obtain ⟨xi, xc, xm, xt, xs⟩ := x
  dsimp only at HR HADD HAH ⊢
  go_enter Try.func30, Try.ntmps30
  go_wp2_with fail
  obtain ⟨w0, hw0⟩ : ∃ w0, w.alloc (.cells #[.int .i64 xi, .int .i64 xc, .int .i64 xm, .int .i64 xt, .float .f64 xs] 28) = w0 := ⟨_, rfl⟩
  rw [hw0]
  have HF0 : Hid (Fresh w w0) := Lib.hid (by rw [← hw0]; exact (Frm.refl _ w).alloc _)
  have BX : Hid (∀ w', Fresh w0 w' → Five w' w.heap.size 0 ⟨xi, xc, xm, xt, xs⟩) := Lib.hid fun w' F => by
    have B1 : Blk w0 w.heap.size 28 (wcells ⟨xi, xc, xm, xt, xs⟩).toArray := by rw [← hw0]; exact Blk.new w _ _
    exact five_blk (B1.frm F (fun f => f))
  clear hw0
  generalize hrr : right ⟨xi, xc, xm, xt, xs⟩ = r at HR HADD
  clear hrr
  refine (HR.out w0).mono ?_
  rintro e w1 ⟨rfl, f1⟩
  have HF1 := Lib.hid f1
  have HFR1 := Lib.hid (HF0.out.trans f1)
  have HQ1 := Lib.hid (HQ.out.fresh HFR1.out)
  obtain ⟨a0, a1, a2, a3, a4⟩ := BX.out w1 f1
  dsimp only at a0 a1 a2 a3 a4
  clear f1
  cases r with
  | false =>
    go_wp2_with fail
    go_ret
    rw [if_neg (by simp)] at HADD
    exact ⟨by rw [HADD.out]; exact rfl, by rw [HADD.out]; exact StepR.still HQ.out HFR1.out⟩
  | true =>
    rw [if_pos rfl] at HADD
    have HPL := Lib.hid (refPlace_any w1 B b _ l xi HQ1.out (by omega))
    rcases Bool.eq_false_or_eq_true (has xi l) with hh | hh
    · rw [hh, if_pos rfl] at HADD
      have hp := (plc_yes hh).1
      rw [hp] at HPL
      have hp0 : (0 : Int) ≤ (place xi l : Int) := by omega
      clear hp hh
      generalize (place xi l : Int) = p at HPL hp0
      go_wp2_with fail
      refine HPL.out.mono ?_
      rintro e w2 ⟨rfl, hw2⟩
      rw [hw2]
      clear hw2 w2
      go_wp2_with fail
      go_ret
      exact ⟨by rw [HADD.out]; exact rfl, by rw [HADD.out]; exact StepR.still HQ.out HFR1.out⟩
    · rw [hh, if_neg (by simp)] at HADD
      rw [plc_no hh] at HPL
      have hc : w1.cell? ⟨b, 0, none⟩ = some (.slice A l.length cap) := HQ1.out.blk.cell 0
      clear hh
      go_wp2_with fail
      refine HPL.out.mono ?_
      rintro e w2 ⟨rfl, hw2⟩
      rw [hw2]
      clear hw2 w2
      by_cases hfew : 200 ≤ l.length
      · rw [if_pos hfew] at HADD
        have hfi : (200 : Int) ≤ (l.length : Int) := by omega
        go_wp2_with fail
        go_ret
        exact ⟨by rw [HADD.out]; exact rfl, by rw [HADD.out]; exact StepR.still HQ.out HFR1.out⟩
      · rw [if_neg hfew] at HADD
        have hfi : ¬ (200 : Int) ≤ (l.length : Int) := by omega
        go_wp2_with fail
        clear a0 a1 a2 a3 a4 hc
        go_loopw [6] (fun v6 wr => ∃ i : Nat, i ≤ cn ∧ v6 = .int .i64 (i : Int) ∧ Fresh w1 wr) (fun v6 _ => cn - (intOf v6).toNat)
        case atStart => exact ⟨0, by omega, rfl, Frm.refl _ _⟩
        case round =>
          obtain ⟨i, hic, rfl, hf⟩ := hrel
          have HF := Lib.hid hf
          have HQR := Lib.hid (HQ1.out.fresh hf)
          have hi0 : (0 : Int) ≤ (i : Int) := by omega
          have hc0 : wr.cell? ⟨b, 0, none⟩ = some (.slice A l.length cap) := HQR.out.blk.cell 0
          by_cases hlt : i < l.length
          · have hat := HAT.out i hlt
            obtain ⟨bl, ol, rfl, _, p5⟩ := five_at HQR.out.sl.rd hlt
            obtain ⟨y, hy⟩ : ∃ y, y = l[i] := ⟨_, rfl⟩
            rw [← hy] at p5 hat
            clear hy
            have HCA := Lib.hid (HAH.out y wr.drew)
            rw [hat] at HCA
            unfold wagg at HCA
            clear hat
            obtain ⟨yi, yc, ym, yt, ys⟩ := y
            have CELL : Hid (∀ w', Fresh wr w' → w'.cell? ⟨b, 0, none⟩ = some (.slice (some ⟨bl, ol, none⟩) l.length cap) ∧ w'.cell? ⟨bl, ol + i * 5, none⟩ = some (.int .i64 yi) ∧ w'.cell? ⟨bl, ol + i * 5 + 1, none⟩ = some (.int .i64 yc) ∧ w'.cell? ⟨bl, ol + i * 5 + 2, none⟩ = some (.int .i64 ym) ∧ w'.cell? ⟨bl, ol + i * 5 + 3, none⟩ = some (.int .i64 yt) ∧ w'.cell? ⟨bl, ol + i * 5 + 4, none⟩ = some (.float .f64 ys) ∧
                w'.cell? ⟨w.heap.size, 0, none⟩ = some (.int .i64 xi) ∧ w'.cell? ⟨w.heap.size, 1, none⟩ = some (.int .i64 xc) ∧ w'.cell? ⟨w.heap.size, 2, none⟩ = some (.int .i64 xm) ∧ w'.cell? ⟨w.heap.size, 3, none⟩ = some (.int .i64 xt) ∧ w'.cell? ⟨w.heap.size, 4, none⟩ = some (.float .f64 xs)) := Lib.hid fun w' F => by
              have c := BX.out w' ((HF1.out.trans HF.out).trans F)
              have d := p5.fresh F
              exact ⟨(HQR.out.fresh F).blk.cell 0, d.1, d.2.1, d.2.2.1, d.2.2.2.1, d.2.2.2.2, c.1, c.2.1, c.2.2.1, c.2.2.2.1, c.2.2.2.2⟩
            have hlti : (i : Int) < (l.length : Int) := by omega
            clear p5 hf hc0
            by_cases hci : i < cn
            · rw [show decide (i < cn) = true by simpa using hci] at HCA
              go_wp2_with fail
              go_region_held3 (fun w' => w'.cell? ⟨b, 0, none⟩ = some (.slice (some ⟨bl, ol, none⟩) l.length cap) ∧ w'.cell? ⟨bl, ol + i * 5, none⟩ = some (.int .i64 yi) ∧ w'.cell? ⟨bl, ol + i * 5 + 1, none⟩ = some (.int .i64 yc) ∧ w'.cell? ⟨bl, ol + i * 5 + 2, none⟩ = some (.int .i64 ym) ∧ w'.cell? ⟨bl, ol + i * 5 + 3, none⟩ = some (.int .i64 yt) ∧ w'.cell? ⟨bl, ol + i * 5 + 4, none⟩ = some (.float .f64 ys) ∧
                w'.cell? ⟨w.heap.size, 0, none⟩ = some (.int .i64 xi) ∧ w'.cell? ⟨w.heap.size, 1, none⟩ = some (.int .i64 xc) ∧ w'.cell? ⟨w.heap.size, 2, none⟩ = some (.int .i64 xm) ∧ w'.cell? ⟨w.heap.size, 3, none⟩ = some (.int .i64 xt) ∧ w'.cell? ⟨w.heap.size, 4, none⟩ = some (.float .f64 xs))
                (first | exact CELL.out _ (Frm.refl _ _) | exact CELL.out _ ((Frm.refl _ _).drew) | exact CELL.out _ (((Frm.refl _ _).drew).trans HF3.out))
                (first
                  | (go_at_call 14; refine (HCA.out).mono ?_; rintro e w3 ⟨rfl, f3⟩; have HF3 := Lib.hid f3; clear f3))
              have HFF := Lib.hid ((HF.out.drew).trans HF3.out)
              go_wp2_with fail
              go_roundw
              case rel => exact ⟨i + 1, by omega, by go_num, HFF.out⟩
              case measure => simp [intOf]; omega
            · rw [show decide (i < cn) = false by simpa using hci] at HCA
              obtain rfl : i = cn := by omega
              clear hci hic
              go_wp2_with fail
              go_region_held3 (fun w' => w'.cell? ⟨b, 0, none⟩ = some (.slice (some ⟨bl, ol, none⟩) l.length cap) ∧ w'.cell? ⟨bl, ol + i * 5, none⟩ = some (.int .i64 yi) ∧ w'.cell? ⟨bl, ol + i * 5 + 1, none⟩ = some (.int .i64 yc) ∧ w'.cell? ⟨bl, ol + i * 5 + 2, none⟩ = some (.int .i64 ym) ∧ w'.cell? ⟨bl, ol + i * 5 + 3, none⟩ = some (.int .i64 yt) ∧ w'.cell? ⟨bl, ol + i * 5 + 4, none⟩ = some (.float .f64 ys) ∧
                w'.cell? ⟨w.heap.size, 0, none⟩ = some (.int .i64 xi) ∧ w'.cell? ⟨w.heap.size, 1, none⟩ = some (.int .i64 xc) ∧ w'.cell? ⟨w.heap.size, 2, none⟩ = some (.int .i64 xm) ∧ w'.cell? ⟨w.heap.size, 3, none⟩ = some (.int .i64 xt) ∧ w'.cell? ⟨w.heap.size, 4, none⟩ = some (.float .f64 xs))
                (first | exact CELL.out _ (Frm.refl _ _) | exact CELL.out _ ((Frm.refl _ _).drew) | exact CELL.out _ (((Frm.refl _ _).drew).trans HF3.out))
                (first
                  | (go_at_call 14; refine (HCA.out).mono ?_; rintro e w3 ⟨rfl, f3⟩; have HF3 := Lib.hid f3; clear f3))
              have HFF := Lib.hid ((HF.out.drew).trans HF3.out)
              clear HF HCA CELL
              have HQW := Lib.hid (HQ1.out.fresh HFF.out)
              have hcw : w3.cell? ⟨b, 0, none⟩ = some (.slice (some ⟨bl, ol, none⟩) l.length cap) := HQW.out.blk.cell 0
              have hci : ¬ (cap = i) := by omega
              obtain ⟨a0, a1, a2, a3, a4⟩ := BX.out w3 (HF1.out.trans HFF.out)
              dsimp only at a0 a1 a2 a3 a4
              have RT : Hid (Rd (w3.alloc (.cells #[] 28)) w3.heap.size (some ⟨bl, ol, none⟩) ((l.take i).flatMap wcells)) := Lib.hid (by rw [wcells_take]; exact (HQW.out.sl.rd.take _).alloc (Nat.le_refl _) _)
              have RDD : Hid (∀ w', Fresh w3 w' → Rd w' w'.heap.size (some ⟨bl, ol + i * 5, none⟩) ((l.drop i).flatMap wcells)) := Lib.hid (fun w' F => by rw [wcells_drop]; exact rd_drop (HQW.out.fresh F).sl.rd)
              have hblt := HQW.out.blk.lt
              have hge := HQW.out.ge
              have S0 := Lib.hid (sl_zero w3 B (by omega))
              have hil1 : i ≤ l.length := by omega
              have HL1 : Hid (((l.take i).flatMap wcells).length = i * 5) := Lib.hid (by rw [wcells_len, List.length_take, Nat.min_eq_left hil1])
              have HL2 : Hid (((l.drop i).flatMap wcells).length = (l.length - i) * 5) := Lib.hid (by rw [wcells_len, List.length_drop])
              have k0 : (0 : Int) ≤ (i : Int) := by omega
              have k1 : (i : Int) ≤ (l.length : Int) := by omega
              have k2 : (l.length : Int) ≤ (cap : Int) := by omega
              have k3 : (i : Int) ≤ (cap : Int) := by omega
              unfold maxLen at hcm
              clear hlt
              go_wp2_with (first
                | (at_builtin; refine wpList_append_sl _ rfl (.tmp 43) (.tmp 49) _ rfl B 28 i0 _ 5 40 Try.underlying22 hi hz0 hz1 hz2 rfl (by omega) (.slice (some ⟨w3.heap.size, 0, none⟩) 0 0) 0 [] rfl S0.out w3.heap.size (some ⟨bl, ol, none⟩) i cap ((l.take i).flatMap wcells) rfl HL1.out RT.out (wcells_one _) (by unfold maxLen; omega) (by omega) (by simp; omega) ?_; intro v1 wa hs1 hf1 ha1; have HA1 : Hid (Fresh w3 wa) := Lib.hid (((Frm.refl _ w3).alloc _).trans' hf1 (fun i hi hk => by have := own_at hk; omega)); obtain ⟨b0, b1, b2, b3, b4⟩ := BX.out wa ((HF1.out.trans HFF.out).trans HA1.out); dsimp only at b0 b1 b2 b3 b4; have HS1 := Lib.hid (hs1.alloc (.cells #[.int .i64 xi, .int .i64 xc, .int .i64 xm, .int .i64 xt, .float .f64 xs] 28)); have HR1 := Lib.hid (rd_new wa (wcells ⟨xi, xc, xm, xt, xs⟩) 28); have hsa := HA1.out.size; have HO1 : Hid (∀ k, v1.ownBlock = some k → w3.heap.size ≤ k) := Lib.hid (fun k hk => by rcases ha1 with h | h <;> rw [h] at hk <;> first | (have := own_at hk; omega) | (have := Option.some.inj hk; simp at this; omega)); clear hs1 hf1 ha1)
                | (at_builtin; refine wpList_append_sl _ rfl (.tmp 51) (.tmp 53) _ rfl B 28 i0 _ 5 40 Try.underlying22 hi hz0 hz1 hz2 rfl (by omega) v1 (0 + i) _ rfl HS1.out (wa.heap.size + 1) (some ⟨wa.heap.size, 0, none⟩) 1 1 (wcells ⟨xi, xc, xm, xt, xs⟩) rfl (by rfl) HR1.out HX1.out (by unfold maxLen; omega) (by omega) (by simp; omega) ?_; intro v2 wb hs2 hf2 ha2; have HB1 : Hid (Fresh w3 wb) := Lib.hid ((HA1.out.alloc _).trans' hf2 (fun i hi hk => by have := HO1.out _ hk; omega)); have hcb : wb.cell? ⟨b, 0, none⟩ = some (.slice (some ⟨bl, ol, none⟩) l.length cap) := (HQW.out.fresh HB1.out).blk.cell 0; have HS2 := Lib.hid hs2; have hsb := HB1.out.size; have HO2 : Hid (∀ k, v2.ownBlock = some k → w3.heap.size ≤ k) := Lib.hid (fun k hk => by rcases ha2 with h | h <;> rw [h] at hk <;> first | exact HO1.out _ hk | (have := Option.some.inj hk; simp at this; omega)); clear hs2 hf2 ha2)
                | (at_builtin; refine wpList_append_sl _ rfl (.tmp 56) (.tmp 62) _ rfl B 28 i0 _ 5 40 Try.underlying22 hi hz0 hz1 hz2 rfl (by omega) v2 (0 + i + 1) _ rfl HS2.out wb.heap.size (some ⟨bl, ol + i * 5, none⟩) (l.length - i) (cap - i) ((l.drop i).flatMap wcells) (by simp [Act.eval, Act.put]) HL2.out (RDD.out wb HB1.out) (wcells_one _) (by unfold maxLen; omega) (by omega) (by omega) ?_; intro v3 wc hs3 hf3 ha3; rw [show 0 + i + 1 + (l.length - i) = l.length + 1 by omega] at hs3; have HC1 : Hid (Fresh w3 wc) := Lib.hid (HB1.out.trans' hf3 (fun i hi hk => by have := HO2.out _ hk; omega)); obtain ⟨A3, c3, rfl, _⟩ := hs3.shape; have hbc := (HQW.out.fresh HC1.out).blk; have hcc : wc.cell? ⟨b, 0, none⟩ = some (.slice (some ⟨bl, ol, none⟩) l.length cap) := hbc.cell 0; have hcf := hbc.frozen 0; have HPUT := Lib.hid (putR hge (((HF0.out.trans HF1.out).trans HFF.out).trans HC1.out) hbc hs3); clear hs3 hf3 ha3 hbc))
              go_ret
              exact ⟨by rw [HADD.out]; exact rfl, by rw [HADD.out]; exact ⟨_, ⟨HPUT.out.1, hge, by show Sl _ _ _ _ _ (ins _ l).length _; rw [HINL.out, HPARTS.out]; exact HPUT.out.2.1⟩, HPUT.out.2.2⟩⟩
          · obtain rfl : i = cn := by omega
            have hli : i = l.length := by omega
            have hlti : decide ((i : Int) < (l.length : Int)) = false := by simp; omega
            clear hc0
            have hcq : ∀ n, (wr.drewN n).cell? ⟨b, 0, none⟩ = some (.slice A l.length cap) := fun _ => HQR.out.blk.cell 0
            go_wp2_with fail
            go_quiet (fail)
            rename_i nq
            have HFF := Lib.hid (hf.drewN nq)
            clear hcq HQR HF hf hlti
            obtain ⟨w3, hw3⟩ : ∃ w3, wr.drewN nq = w3 := ⟨_, rfl⟩
            rw [hw3] at HFF ⊢
            clear hw3
            have HQW := Lib.hid (HQ1.out.fresh HFF.out)
            by_cases hci : cap = i
            · obtain rfl : cap = l.length := by omega
              subst hci
              have hcw : w3.cell? ⟨b, 0, none⟩ = some (.slice A l.length l.length) := HQW.out.blk.cell 0
              obtain ⟨a0, a1, a2, a3, a4⟩ := BX.out w3 (HF1.out.trans HFF.out)
              dsimp only at a0 a1 a2 a3 a4
              have RT : Hid (Rd (w3.alloc (.cells #[] 28)) w3.heap.size A ((l.take l.length).flatMap wcells)) := Lib.hid (by rw [wcells_take]; exact (HQW.out.sl.rd.take _).alloc (Nat.le_refl _) _)
              have RDD : Hid (∀ w', Fresh w3 w' → Rd w' w'.heap.size A ((l.drop l.length).flatMap wcells)) := Lib.hid (fun w' F => by rw [List.drop_length]; exact Rd.nil _ _ _)
              have hblt := HQW.out.blk.lt
              have hge := HQW.out.ge
              have S0 := Lib.hid (sl_zero w3 B (by omega))
              have hil1 : l.length ≤ l.length := by omega
              have HL1 : Hid (((l.take l.length).flatMap wcells).length = l.length * 5) := Lib.hid (by rw [wcells_len, List.length_take, Nat.min_eq_left hil1])
              have HL2 : Hid (((l.drop l.length).flatMap wcells).length = 0 * 5) := Lib.hid (by rw [wcells_len, List.length_drop]; omega)
              have k0 : (0 : Int) ≤ (l.length : Int) := by omega
              have k1 : (l.length : Int) ≤ (l.length : Int) := by omega
              have k2 : (l.length : Int) ≤ (l.length : Int) := by omega
              have k3 : (l.length : Int) ≤ (l.length : Int) := by omega
              unfold maxLen at hcm
              clear hlt
              go_wp2_with (first
                | (at_builtin; refine wpList_append_sl _ rfl (.tmp 43) (.tmp 49) _ rfl B 28 i0 _ 5 40 Try.underlying22 hi hz0 hz1 hz2 rfl (by omega) (.slice (some ⟨w3.heap.size, 0, none⟩) 0 0) 0 [] rfl S0.out w3.heap.size A l.length l.length ((l.take l.length).flatMap wcells) rfl HL1.out RT.out (wcells_one _) (by unfold maxLen; omega) (by omega) (by simp; omega) ?_; intro v1 wa hs1 hf1 ha1; have HA1 : Hid (Fresh w3 wa) := Lib.hid (((Frm.refl _ w3).alloc _).trans' hf1 (fun i hi hk => by have := own_at hk; omega)); obtain ⟨b0, b1, b2, b3, b4⟩ := BX.out wa ((HF1.out.trans HFF.out).trans HA1.out); dsimp only at b0 b1 b2 b3 b4; have HS1 := Lib.hid (hs1.alloc (.cells #[.int .i64 xi, .int .i64 xc, .int .i64 xm, .int .i64 xt, .float .f64 xs] 28)); have HR1 := Lib.hid (rd_new wa (wcells ⟨xi, xc, xm, xt, xs⟩) 28); have hsa := HA1.out.size; have HO1 : Hid (∀ k, v1.ownBlock = some k → w3.heap.size ≤ k) := Lib.hid (fun k hk => by rcases ha1 with h | h <;> rw [h] at hk <;> first | (have := own_at hk; omega) | (have := Option.some.inj hk; simp at this; omega)); clear hs1 hf1 ha1)
                | (at_builtin; refine wpList_append_sl _ rfl (.tmp 51) (.tmp 53) _ rfl B 28 i0 _ 5 40 Try.underlying22 hi hz0 hz1 hz2 rfl (by omega) v1 (0 + l.length) _ rfl HS1.out (wa.heap.size + 1) (some ⟨wa.heap.size, 0, none⟩) 1 1 (wcells ⟨xi, xc, xm, xt, xs⟩) rfl (by rfl) HR1.out HX1.out (by unfold maxLen; omega) (by omega) (by simp; omega) ?_; intro v2 wb hs2 hf2 ha2; have HB1 : Hid (Fresh w3 wb) := Lib.hid ((HA1.out.alloc _).trans' hf2 (fun i hi hk => by have := HO1.out _ hk; omega)); have hcb : wb.cell? ⟨b, 0, none⟩ = some (.slice A l.length l.length) := (HQW.out.fresh HB1.out).blk.cell 0; have HS2 := Lib.hid hs2; have hsb := HB1.out.size; have HO2 : Hid (∀ k, v2.ownBlock = some k → w3.heap.size ≤ k) := Lib.hid (fun k hk => by rcases ha2 with h | h <;> rw [h] at hk <;> first | exact HO1.out _ hk | (have := Option.some.inj hk; simp at this; omega)); clear hs2 hf2 ha2)
                | (at_builtin; refine wpList_append_sl _ rfl (.tmp 56) (.tmp 62) _ rfl B 28 i0 _ 5 40 Try.underlying22 hi hz0 hz1 hz2 rfl (by omega) v2 (0 + l.length + 1) _ rfl HS2.out wb.heap.size A 0 0 ((l.drop l.length).flatMap wcells) (by simp [Act.eval, Act.put]) HL2.out (RDD.out wb HB1.out) (wcells_one _) (by unfold maxLen; omega) (by omega) (by omega) ?_; intro v3 wc hs3 hf3 ha3; rw [show 0 + l.length + 1 + 0 = l.length + 1 by omega] at hs3; have HC1 : Hid (Fresh w3 wc) := Lib.hid (HB1.out.trans' hf3 (fun i hi hk => by have := HO2.out _ hk; omega)); obtain ⟨A3, c3, rfl, _⟩ := hs3.shape; have hbc := (HQW.out.fresh HC1.out).blk; have hcc : wc.cell? ⟨b, 0, none⟩ = some (.slice A l.length l.length) := hbc.cell 0; have hcf := hbc.frozen 0; have HPUT := Lib.hid (putR hge (((HF0.out.trans HF1.out).trans HFF.out).trans HC1.out) hbc hs3); clear hs3 hf3 ha3 hbc))
              go_ret
              exact ⟨by rw [HADD.out]; exact rfl, by rw [HADD.out]; exact ⟨_, ⟨HPUT.out.1, hge, by show Sl _ _ _ _ _ (ins _ l).length _; rw [HINL.out, HPARTS.out]; exact HPUT.out.2.1⟩, HPUT.out.2.2⟩⟩
            · obtain ⟨bl, ol, rfl⟩ : ∃ bl ol, A = some ⟨bl, ol, none⟩ := by
                rcases HQ1.out.sl.2 with ⟨h, h0⟩ | ⟨g, o, c, cur, h, _⟩
                · injection h with _ _ h
                  omega
                · injection h with h _ _
                  exact ⟨g, o, h⟩
              have hcw : w3.cell? ⟨b, 0, none⟩ = some (.slice (some ⟨bl, ol, none⟩) l.length cap) := HQW.out.blk.cell 0
              clear hli
              obtain ⟨a0, a1, a2, a3, a4⟩ := BX.out w3 (HF1.out.trans HFF.out)
              dsimp only at a0 a1 a2 a3 a4
              have RT : Hid (Rd (w3.alloc (.cells #[] 28)) w3.heap.size (some ⟨bl, ol, none⟩) ((l.take i).flatMap wcells)) := Lib.hid (by rw [wcells_take]; exact (HQW.out.sl.rd.take _).alloc (Nat.le_refl _) _)
              have RDD : Hid (∀ w', Fresh w3 w' → Rd w' w'.heap.size (some ⟨bl, ol + i * 5, none⟩) ((l.drop i).flatMap wcells)) := Lib.hid (fun w' F => by rw [wcells_drop]; exact rd_drop (HQW.out.fresh F).sl.rd)
              have hblt := HQW.out.blk.lt
              have hge := HQW.out.ge
              have S0 := Lib.hid (sl_zero w3 B (by omega))
              have hil1 : i ≤ l.length := by omega
              have HL1 : Hid (((l.take i).flatMap wcells).length = i * 5) := Lib.hid (by rw [wcells_len, List.length_take, Nat.min_eq_left hil1])
              have HL2 : Hid (((l.drop i).flatMap wcells).length = (l.length - i) * 5) := Lib.hid (by rw [wcells_len, List.length_drop])
              have k0 : (0 : Int) ≤ (i : Int) := by omega
              have k1 : (i : Int) ≤ (l.length : Int) := by omega
              have k2 : (l.length : Int) ≤ (cap : Int) := by omega
              have k3 : (i : Int) ≤ (cap : Int) := by omega
              unfold maxLen at hcm
              clear hlt
              go_wp2_with (first
                | (at_builtin; refine wpList_append_sl _ rfl (.tmp 43) (.tmp 49) _ rfl B 28 i0 _ 5 40 Try.underlying22 hi hz0 hz1 hz2 rfl (by omega) (.slice (some ⟨w3.heap.size, 0, none⟩) 0 0) 0 [] rfl S0.out w3.heap.size (some ⟨bl, ol, none⟩) i cap ((l.take i).flatMap wcells) rfl HL1.out RT.out (wcells_one _) (by unfold maxLen; omega) (by omega) (by simp; omega) ?_; intro v1 wa hs1 hf1 ha1; have HA1 : Hid (Fresh w3 wa) := Lib.hid (((Frm.refl _ w3).alloc _).trans' hf1 (fun i hi hk => by have := own_at hk; omega)); obtain ⟨b0, b1, b2, b3, b4⟩ := BX.out wa ((HF1.out.trans HFF.out).trans HA1.out); dsimp only at b0 b1 b2 b3 b4; have HS1 := Lib.hid (hs1.alloc (.cells #[.int .i64 xi, .int .i64 xc, .int .i64 xm, .int .i64 xt, .float .f64 xs] 28)); have HR1 := Lib.hid (rd_new wa (wcells ⟨xi, xc, xm, xt, xs⟩) 28); have hsa := HA1.out.size; have HO1 : Hid (∀ k, v1.ownBlock = some k → w3.heap.size ≤ k) := Lib.hid (fun k hk => by rcases ha1 with h | h <;> rw [h] at hk <;> first | (have := own_at hk; omega) | (have := Option.some.inj hk; simp at this; omega)); clear hs1 hf1 ha1)
                | (at_builtin; refine wpList_append_sl _ rfl (.tmp 51) (.tmp 53) _ rfl B 28 i0 _ 5 40 Try.underlying22 hi hz0 hz1 hz2 rfl (by omega) v1 (0 + i) _ rfl HS1.out (wa.heap.size + 1) (some ⟨wa.heap.size, 0, none⟩) 1 1 (wcells ⟨xi, xc, xm, xt, xs⟩) rfl (by rfl) HR1.out HX1.out (by unfold maxLen; omega) (by omega) (by simp; omega) ?_; intro v2 wb hs2 hf2 ha2; have HB1 : Hid (Fresh w3 wb) := Lib.hid ((HA1.out.alloc _).trans' hf2 (fun i hi hk => by have := HO1.out _ hk; omega)); have hcb : wb.cell? ⟨b, 0, none⟩ = some (.slice (some ⟨bl, ol, none⟩) l.length cap) := (HQW.out.fresh HB1.out).blk.cell 0; have HS2 := Lib.hid hs2; have hsb := HB1.out.size; have HO2 : Hid (∀ k, v2.ownBlock = some k → w3.heap.size ≤ k) := Lib.hid (fun k hk => by rcases ha2 with h | h <;> rw [h] at hk <;> first | exact HO1.out _ hk | (have := Option.some.inj hk; simp at this; omega)); clear hs2 hf2 ha2)
                | (at_builtin; refine wpList_append_sl _ rfl (.tmp 56) (.tmp 62) _ rfl B 28 i0 _ 5 40 Try.underlying22 hi hz0 hz1 hz2 rfl (by omega) v2 (0 + i + 1) _ rfl HS2.out wb.heap.size (some ⟨bl, ol + i * 5, none⟩) (l.length - i) (cap - i) ((l.drop i).flatMap wcells) (by simp [Act.eval, Act.put]) HL2.out (RDD.out wb HB1.out) (wcells_one _) (by unfold maxLen; omega) (by omega) (by omega) ?_; intro v3 wc hs3 hf3 ha3; rw [show 0 + i + 1 + (l.length - i) = l.length + 1 by omega] at hs3; have HC1 : Hid (Fresh w3 wc) := Lib.hid (HB1.out.trans' hf3 (fun i hi hk => by have := HO2.out _ hk; omega)); obtain ⟨A3, c3, rfl, _⟩ := hs3.shape; have hbc := (HQW.out.fresh HC1.out).blk; have hcc : wc.cell? ⟨b, 0, none⟩ = some (.slice (some ⟨bl, ol, none⟩) l.length cap) := hbc.cell 0; have hcf := hbc.frozen 0; have HPUT := Lib.hid (putR hge (((HF0.out.trans HF1.out).trans HFF.out).trans HC1.out) hbc hs3); clear hs3 hf3 ha3 hbc))
              go_ret
              exact ⟨by rw [HADD.out]; exact rfl, by rw [HADD.out]; exact ⟨_, ⟨HPUT.out.1, hge, by show Sl _ _ _ _ _ (ins _ l).length _; rw [HINL.out, HPARTS.out]; exact HPUT.out.2.1⟩, HPUT.out.2.2⟩⟩
end Go.Proofs.Ythofodjklogfgaa

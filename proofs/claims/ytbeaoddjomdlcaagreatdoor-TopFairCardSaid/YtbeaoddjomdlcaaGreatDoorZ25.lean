/- Proved here, for the statement TopFairCardSaid: laws that its walk leans on. It holds with no condition. (Put together and shortened by a program out of many texts: Queue18, To25, To26.) -/
import Derived.Test.YtbeaoddjomdlcaaGreatDoorZ24
import Derived.Test.YtbeaoddjomdlcaaGreatDoorZ20
set_option linter.unusedVariables false
set_option linter.unusedSimpArgs false
set_option maxRecDepth 100000
set_option maxHeartbeats 64000000
namespace Go.Proofs.YtbeaoddjomdlcaaGreatDoor
section
open Go.RowKit QueueM
attribute [local go_sem] run_store_float
theorem step_append_sl {P : Program} {w : World} {ops : Array Oper} {o : Oper} {a : Act} {K : Act → World → Prop} {Q : Exit → Act → World → Prop} {E : Prop} (hgd : o.guard = none) (s x : Operand) (t : TypeId)
    (ho : o.op = .call { callee := .builtin .append, args := #[s, x], argTypes := #[t, t] })
    (B : Nat) (e : TypeId) (i : TypeInfo) (z : Value) (size bytes : Nat) (ht : P.underlying t = some (.slice e)) (hi : P.info? e = some i) (hz : i.zero = some z)
    (hsize : i.size = size) (hby : i.bytes = bytes) (hzs : z.cells.size = size) (hsz : 0 < size)
    (v : Value) (n : Nat) (xs : List Value) (hs : a.eval s = v) (hown : Sl w B e size v n xs)
    (B' : Nat) (A : Option Addr) (m c : Nat) (news : List Value) (hx : a.eval x = .slice A m c) (hl : news.length = m * size) (hr : Rd w B' A news) (h1 : ∀ u ∈ news, u.oneCell' = true)
    (h63 : n + m ≤ maxLen) (hbytes : (n + m) * bytes ≤ 140737488355328) (hB : B ≤ w.heap.size)
    (h : ∀ v' w', Sl w' B e size v' (n + m) (xs ++ news) → Frm (fun k => v.ownBlock = some k) w w' → (v'.ownBlock = v.ownBlock ∨ v'.ownBlock = some w.heap.size) → K (a.put o.dst v') w') :
    if Region.wanted o (yielded ops a.tmps) = true then Oper.wp P o a w K Q else E := by
  have hw : Region.wanted o (yielded ops a.tmps) = true := by simp [Region.wanted, hgd]
  rw [if_pos hw]
  obtain ⟨v', w', hrun, h2, h3, h4⟩ := run_append_sl (P := P) w B t o.type e i z size bytes ht hi hz hsize hby hzs hsz v n xs hown B' A m c news hl hr h1 h63 hbytes hB
  unfold Oper.wp execOp
  simp only [ho, resolve, invoke, builtin, Sem.run_bind, Sem.run_pure, Result.andThen_ok, List.map_toArray, List.map_cons, List.map_nil, hs, hx, hrun]
  exact h v' w' h2 h3 h4
theorem IsR.fresh {w w' : World} {B b : Nat} {v : Value} {l : List Wt} (h : IsR w B b v l) (F : Fresh w w') : IsR w' B b v l := ⟨h.blk.frm F (fun f => f), h.ge, h.sl.fresh F⟩
theorem IsR.less {w : World} {B B' b : Nat} {v : Value} {l : List Wt} (h : IsR w B b v l) (hB : B' ≤ B) : IsR w B' b v l := ⟨h.blk, Nat.le_trans hB h.ge, h.sl.less hB⟩
def StepR (w : World) (B b : Nat) (l : List Wt) (w' : World) : Prop := ∃ v', IsR w' B b v' l ∧ Frm (fun k => k = b) w w'
theorem StepR.still {w w' : World} {B b : Nat} {v : Value} {l : List Wt} (h : IsR w B b v l) (F : Fresh w w') : StepR w B b l w' := ⟨v, h.fresh F, F.frm⟩
theorem putR {w w1 : World} {B b n : Nat} {v v' : Value} {xs : List Value} (hB : B ≤ b) (F : Fresh w w1) (hb : Blk w1 b 63 #[v]) (hs : Sl w1 B 69 5 v' n xs) :
    Blk (w1.setCell ⟨b, 0, none⟩ v') b 63 #[v'] ∧ Sl (w1.setCell ⟨b, 0, none⟩ v') B 69 5 v' n xs ∧ Frm (fun k => k = b) w (w1.setCell ⟨b, 0, none⟩ v') := by
  have hap := hs.apart hb (by decide)
  refine ⟨hb.set 0 v', hs.frm ((Frm.refl (fun k => k = b) w1).setCell (p := ⟨b, 0, none⟩) (fun _ => rfl) v') (fun k hk h => ?_), (show Frm (fun k => k = b) w w1 from F.frm).setCell (p := ⟨b, 0, none⟩) (fun _ => rfl) v'⟩
  subst h
  exact hap hk
theorem sl_zero (w : World) (B : Nat) (hB : B ≤ w.heap.size) : Sl (w.alloc (.cells #[] 69)) B 69 5 (.slice (some ⟨w.heap.size, 0, none⟩) 0 0) 0 [] :=
  Sl.mk' hB (Blk.new w _ _) (by simp) (Nat.le_refl _) (by unfold maxLen; omega) (by simp) (fun j u hu => by simp at hu)
theorem ins_parts {x : Wt} {l : List Wt} : (ins x l).flatMap wcells = [] ++ (l.take (cnt x l)).flatMap wcells ++ wcells x ++ (l.drop (cnt x l)).flatMap wcells := by
  rw [wcells_ins, wcells_take, wcells_drop, List.nil_append]
theorem rd_drop {w : World} {B bl ol k : Nat} {xs : List Value} (h : Rd w B (some ⟨bl, ol, none⟩) xs) : Rd w B (some ⟨bl, ol + k, none⟩) (xs.drop k) := fun hx => by
  obtain ⟨b, o, hA, hb, hc⟩ := h (by rintro rfl; simp at hx)
  injection hA with hA
  injection hA with h1 h2
  subst h1 h2
  exact ⟨bl, ol + k, rfl, hb, fun j u hu => by rw [Nat.add_assoc]; exact hc _ u (by rw [← hu, List.getElem?_drop])⟩
def AddPostR (w : World) (B b : Nat) (x : Wt) (l : List Wt) (e : Ending) (w' : World) : Prop :=
  e = .returned (.int .i64 (add x l).1) ∧ StepR w B b (add x l).2 w'
set_option maxRecDepth 100000 in
theorem refAdd_any (w : World) (B b : Nat) (v : Value) (l : List Wt) (x : Wt) (h : IsR w B b v l) (hl : QueueM.Good l) :
    Calls Tryz.prog 82 #[.pointer (some ⟨b, 0, none⟩), wagg x] w fun e w' => AddPostR w B b x l e w' := by
  obtain ⟨i0, hi, hz0, hz1, hz2⟩ := info_parts info_a
  have hlen := hl.few
  have HG := zh hl
  have HQ := zh h
  clear hl h
  have HR : Hid (∀ w, Calls Tryz.prog 127 #[.agg #[.int .i64 x.id, .int .i64 x.cls, .int .i64 x.many, .int .i64 x.time, .float .f64 x.score]] w fun e w' => e = .returned (.bool (right x)) ∧ Fresh w w') := zh fun w => refRight_any x w
  have HAH : Hid (∀ (a : Wt) (w : World), Calls Tryz.prog 19 #[wagg a, .agg #[.int .i64 x.id, .int .i64 x.cls, .int .i64 x.many, .int .i64 x.time, .float .f64 x.score]] w fun e w' => e = .returned (.bool (QueueM.ahead a x)) ∧ Fresh w w') := zh fun a w => refAhead_any a x w
  have HX1 : Hid (∀ u ∈ wcells x, u.oneCell' = true) := zh (by have := wcells_one [x]; simpa using this)
  have HADD := zh (show add x l = if right x = true then (if has x.id l = true then (7, l) else if 200 ≤ l.length then (3, l) else (0, ins x l)) else (1, l) from rfl)
  have HPARTS := zh (ins_parts (x := x) (l := l))
  have HCL := cnt_le x l
  have HINL := zh (ins_length x l)
  have HAT : Hid (∀ i (hi : i < l.length), QueueM.ahead l[i] x = decide (i < cnt x l)) := zh fun i hi => ahead_pos HG.out.sorted x i hi
  obtain ⟨cn, hcn⟩ : ∃ cn, cn = cnt x l := ⟨_, rfl⟩
  rw [← hcn] at HCL HPARTS HAT
  clear hcn
  unfold wagg
  obtain ⟨A, cap, rfl, hnc, hcm, _⟩ := HQ.out.sl.shape
  obtain ⟨xi, xc, xm, xt, xs⟩ := x
  dsimp only at HR HADD HAH ⊢
  go_in
  go_wp2_with fail
  obtain ⟨w0, hw0⟩ : ∃ w0, w.alloc (.cells #[.int .i64 xi, .int .i64 xc, .int .i64 xm, .int .i64 xt, .float .f64 xs] 69) = w0 := ⟨_, rfl⟩
  rw [hw0]
  have HF0 : Hid (Fresh w w0) := zh (by rw [← hw0]; exact (Frm.refl _ w).alloc _)
  have BX : Hid (∀ w', Fresh w0 w' → Five w' w.heap.size 0 ⟨xi, xc, xm, xt, xs⟩) := zh fun w' F => by
    have B1 : Blk w0 w.heap.size 69 (wcells ⟨xi, xc, xm, xt, xs⟩).toArray := by rw [← hw0]; exact Blk.new w _ _
    exact five_blk (B1.frm F (fun f => f))
  clear hw0
  generalize hrr : right ⟨xi, xc, xm, xt, xs⟩ = r at HR HADD
  clear hrr
  refine (HR.out w0).mono ?_
  rintro e w1 ⟨rfl, f1⟩
  have HF1 := zh f1
  have HFR1 := zh (HF0.out.trans f1)
  have HQ1 := zh (HQ.out.fresh HFR1.out)
  obtain ⟨a0, a1, a2, a3, a4⟩ := BX.out w1 f1
  dsimp only at a0 a1 a2 a3 a4
  clear f1
  cases r with
  | false =>
    go_wp2_with fail
    go_ret
    rw [if_neg (by simp)] at HADD
    exact ⟨by rw [HADD.out]; exact rfl, by rw [HADD.out]; exact StepR.still HQ.out HFR1.out⟩
  | true =>
    rw [if_pos rfl] at HADD
    have HPL := zh (refPlace_any w1 B b _ l xi HQ1.out (by omega))
    rcases Bool.eq_false_or_eq_true (has xi l) with hh | hh
    · rw [hh, if_pos rfl] at HADD
      have hp := (plc_yes hh).1
      rw [hp] at HPL
      have hp0 : (0 : Int) ≤ (place xi l : Int) := by omega
      clear hp hh
      generalize (place xi l : Int) = p at HPL hp0
      go_wp2_with fail
      refine HPL.out.mono ?_
      rintro e w2 ⟨rfl, hw2⟩
      rw [hw2]
      clear hw2 w2
      go_wp2_with fail
      go_ret
      exact ⟨by rw [HADD.out]; exact rfl, by rw [HADD.out]; exact StepR.still HQ.out HFR1.out⟩
    · rw [hh, if_neg (by simp)] at HADD
      rw [plc_no hh] at HPL
      have hc : w1.cell? ⟨b, 0, none⟩ = some (.slice A l.length cap) := HQ1.out.blk.cell 0
      clear hh
      go_wp2_with fail
      refine HPL.out.mono ?_
      rintro e w2 ⟨rfl, hw2⟩
      rw [hw2]
      clear hw2 w2
      by_cases hfew : 200 ≤ l.length
      · rw [if_pos hfew] at HADD
        have hfi : (200 : Int) ≤ (l.length : Int) := by omega
        go_wp2_with fail
        go_ret
        exact ⟨by rw [HADD.out]; exact rfl, by rw [HADD.out]; exact StepR.still HQ.out HFR1.out⟩
      · rw [if_neg hfew] at HADD
        have hfi : ¬ (200 : Int) ≤ (l.length : Int) := by omega
        go_wp2_with fail
        clear a0 a1 a2 a3 a4 hc
        go_loopw [6] (fun v6 wr => ∃ i : Nat, i ≤ cn ∧ v6 = .int .i64 (i : Int) ∧ Fresh w1 wr) (fun v6 _ => cn - (RowKit.intOf v6).toNat)
        case atStart => exact ⟨0, by omega, rfl, Frm.refl _ _⟩
        case round =>
          obtain ⟨i, hic, rfl, hf⟩ := hrel
          have HF := zh hf
          have HQR := zh (HQ1.out.fresh hf)
          have hi0 : (0 : Int) ≤ (i : Int) := by omega
          have hc0 : wr.cell? ⟨b, 0, none⟩ = some (.slice A l.length cap) := HQR.out.blk.cell 0
          by_cases hlt : i < l.length
          · have hat := HAT.out i hlt
            obtain ⟨bl, ol, rfl, _, p5⟩ := five_at HQR.out.sl.rd hlt
            obtain ⟨y, hy⟩ : ∃ y, y = l[i] := ⟨_, rfl⟩
            rw [← hy] at p5 hat
            clear hy
            have HCA := zh (HAH.out y wr.drew)
            rw [hat] at HCA
            unfold wagg at HCA
            clear hat
            obtain ⟨yi, yc, ym, yt, ys⟩ := y
            have CELL : Hid (∀ w', Fresh wr w' → w'.cell? ⟨b, 0, none⟩ = some (.slice (some ⟨bl, ol, none⟩) l.length cap) ∧ w'.cell? ⟨bl, ol + i * 5, none⟩ = some (.int .i64 yi) ∧ w'.cell? ⟨bl, ol + i * 5 + 1, none⟩ = some (.int .i64 yc) ∧ w'.cell? ⟨bl, ol + i * 5 + 2, none⟩ = some (.int .i64 ym) ∧ w'.cell? ⟨bl, ol + i * 5 + 3, none⟩ = some (.int .i64 yt) ∧ w'.cell? ⟨bl, ol + i * 5 + 4, none⟩ = some (.float .f64 ys) ∧
                w'.cell? ⟨w.heap.size, 0, none⟩ = some (.int .i64 xi) ∧ w'.cell? ⟨w.heap.size, 1, none⟩ = some (.int .i64 xc) ∧ w'.cell? ⟨w.heap.size, 2, none⟩ = some (.int .i64 xm) ∧ w'.cell? ⟨w.heap.size, 3, none⟩ = some (.int .i64 xt) ∧ w'.cell? ⟨w.heap.size, 4, none⟩ = some (.float .f64 xs)) := zh fun w' F => by
              have c := BX.out w' ((HF1.out.trans HF.out).trans F)
              have d := p5.fresh F
              exact ⟨(HQR.out.fresh F).blk.cell 0, d.1, d.2.1, d.2.2.1, d.2.2.2.1, d.2.2.2.2, c.1, c.2.1, c.2.2.1, c.2.2.2.1, c.2.2.2.2⟩
            have hlti : (i : Int) < (l.length : Int) := by omega
            clear p5 hf hc0
            by_cases hci : i < cn
            · rw [show decide (i < cn) = true by simpa using hci] at HCA
              go_wp2_with fail
              go_region_held3 (fun w' => w'.cell? ⟨b, 0, none⟩ = some (.slice (some ⟨bl, ol, none⟩) l.length cap) ∧ w'.cell? ⟨bl, ol + i * 5, none⟩ = some (.int .i64 yi) ∧ w'.cell? ⟨bl, ol + i * 5 + 1, none⟩ = some (.int .i64 yc) ∧ w'.cell? ⟨bl, ol + i * 5 + 2, none⟩ = some (.int .i64 ym) ∧ w'.cell? ⟨bl, ol + i * 5 + 3, none⟩ = some (.int .i64 yt) ∧ w'.cell? ⟨bl, ol + i * 5 + 4, none⟩ = some (.float .f64 ys) ∧
                w'.cell? ⟨w.heap.size, 0, none⟩ = some (.int .i64 xi) ∧ w'.cell? ⟨w.heap.size, 1, none⟩ = some (.int .i64 xc) ∧ w'.cell? ⟨w.heap.size, 2, none⟩ = some (.int .i64 xm) ∧ w'.cell? ⟨w.heap.size, 3, none⟩ = some (.int .i64 xt) ∧ w'.cell? ⟨w.heap.size, 4, none⟩ = some (.float .f64 xs))
                (first | exact CELL.out _ (Frm.refl _ _) | exact CELL.out _ ((Frm.refl _ _).drew) | exact CELL.out _ (((Frm.refl _ _).drew).trans HF3.out))
                (first
                  | (go_at_call 19; refine (HCA.out).mono ?_; rintro e w3 ⟨rfl, f3⟩; have HF3 := zh f3; clear f3))
              have HFF := zh ((HF.out.drew).trans HF3.out)
              go_wp2_with fail
              go_roundw
              case rel => exact ⟨i + 1, by omega, by go_num, HFF.out⟩
              case measure => simp [RowKit.intOf]; omega
            · rw [show decide (i < cn) = false by simpa using hci] at HCA
              obtain rfl : i = cn := by omega
              clear hci hic
              go_wp2_with fail
              go_region_held3 (fun w' => w'.cell? ⟨b, 0, none⟩ = some (.slice (some ⟨bl, ol, none⟩) l.length cap) ∧ w'.cell? ⟨bl, ol + i * 5, none⟩ = some (.int .i64 yi) ∧ w'.cell? ⟨bl, ol + i * 5 + 1, none⟩ = some (.int .i64 yc) ∧ w'.cell? ⟨bl, ol + i * 5 + 2, none⟩ = some (.int .i64 ym) ∧ w'.cell? ⟨bl, ol + i * 5 + 3, none⟩ = some (.int .i64 yt) ∧ w'.cell? ⟨bl, ol + i * 5 + 4, none⟩ = some (.float .f64 ys) ∧
                w'.cell? ⟨w.heap.size, 0, none⟩ = some (.int .i64 xi) ∧ w'.cell? ⟨w.heap.size, 1, none⟩ = some (.int .i64 xc) ∧ w'.cell? ⟨w.heap.size, 2, none⟩ = some (.int .i64 xm) ∧ w'.cell? ⟨w.heap.size, 3, none⟩ = some (.int .i64 xt) ∧ w'.cell? ⟨w.heap.size, 4, none⟩ = some (.float .f64 xs))
                (first | exact CELL.out _ (Frm.refl _ _) | exact CELL.out _ ((Frm.refl _ _).drew) | exact CELL.out _ (((Frm.refl _ _).drew).trans HF3.out))
                (first
                  | (go_at_call 19; refine (HCA.out).mono ?_; rintro e w3 ⟨rfl, f3⟩; have HF3 := zh f3; clear f3))
              have HFF := zh ((HF.out.drew).trans HF3.out)
              clear HF HCA CELL
              have HQW := zh (HQ1.out.fresh HFF.out)
              have hcw : w3.cell? ⟨b, 0, none⟩ = some (.slice (some ⟨bl, ol, none⟩) l.length cap) := HQW.out.blk.cell 0
              have hci : ¬ (cap = i) := by omega
              obtain ⟨a0, a1, a2, a3, a4⟩ := BX.out w3 (HF1.out.trans HFF.out)
              dsimp only at a0 a1 a2 a3 a4
              have RT : Hid (Rd (w3.alloc (.cells #[] 69)) w3.heap.size (some ⟨bl, ol, none⟩) ((l.take i).flatMap wcells)) := zh (by rw [wcells_take]; exact (HQW.out.sl.rd.take _).alloc (Nat.le_refl _) _)
              have RDD : Hid (∀ w', Fresh w3 w' → Rd w' w'.heap.size (some ⟨bl, ol + i * 5, none⟩) ((l.drop i).flatMap wcells)) := zh (fun w' F => by rw [wcells_drop]; exact rd_drop (HQW.out.fresh F).sl.rd)
              have hblt := HQW.out.blk.lt
              have hge := HQW.out.ge
              have S0 := zh (sl_zero w3 B (by omega))
              have hil1 : i ≤ l.length := by omega
              have HL1 : Hid (((l.take i).flatMap wcells).length = i * 5) := zh (by rw [wcells_len, List.length_take, Nat.min_eq_left hil1])
              have HL2 : Hid (((l.drop i).flatMap wcells).length = (l.length - i) * 5) := zh (by rw [wcells_len, List.length_drop])
              have k0 : (0 : Int) ≤ (i : Int) := by omega
              have k1 : (i : Int) ≤ (l.length : Int) := by omega
              have k2 : (l.length : Int) ≤ (cap : Int) := by omega
              have k3 : (i : Int) ≤ (cap : Int) := by omega
              unfold maxLen at hcm
              clear hlt
              go_wp2_with (first
                | (at_builtin; refine wpList_append_sl _ rfl (.tmp 43) (.tmp 49) _ rfl B 69 i0 _ 5 40 Tryz.underlying40 hi hz0 hz1 hz2 rfl (by omega) (.slice (some ⟨w3.heap.size, 0, none⟩) 0 0) 0 [] rfl S0.out w3.heap.size (some ⟨bl, ol, none⟩) i cap ((l.take i).flatMap wcells) rfl HL1.out RT.out (wcells_one _) (by unfold maxLen; omega) (by omega) (by simp; omega) ?_; intro v1 wa hs1 hf1 ha1; have HA1 : Hid (Fresh w3 wa) := zh (((Frm.refl _ w3).alloc _).trans' hf1 (fun i hi hk => by have := own_at hk; omega)); obtain ⟨b0, b1, b2, b3, b4⟩ := BX.out wa ((HF1.out.trans HFF.out).trans HA1.out); dsimp only at b0 b1 b2 b3 b4; have HS1 := zh (hs1.alloc (.cells #[.int .i64 xi, .int .i64 xc, .int .i64 xm, .int .i64 xt, .float .f64 xs] 69)); have HR1 := zh (rd_new wa (wcells ⟨xi, xc, xm, xt, xs⟩) 69); have hsa := HA1.out.size; have HO1 : Hid (∀ k, v1.ownBlock = some k → w3.heap.size ≤ k) := zh (fun k hk => by rcases ha1 with h | h <;> rw [h] at hk <;> first | (have := own_at hk; omega) | (have := Option.some.inj hk; simp at this; omega)); clear hs1 hf1 ha1)
                | (at_builtin; refine wpList_append_sl _ rfl (.tmp 51) (.tmp 53) _ rfl B 69 i0 _ 5 40 Tryz.underlying40 hi hz0 hz1 hz2 rfl (by omega) v1 (0 + i) _ rfl HS1.out (wa.heap.size + 1) (some ⟨wa.heap.size, 0, none⟩) 1 1 (wcells ⟨xi, xc, xm, xt, xs⟩) rfl (by rfl) HR1.out HX1.out (by unfold maxLen; omega) (by omega) (by simp; omega) ?_; intro v2 wb hs2 hf2 ha2; have HB1 : Hid (Fresh w3 wb) := zh ((HA1.out.alloc _).trans' hf2 (fun i hi hk => by have := HO1.out _ hk; omega)); have hcb : wb.cell? ⟨b, 0, none⟩ = some (.slice (some ⟨bl, ol, none⟩) l.length cap) := (HQW.out.fresh HB1.out).blk.cell 0; have HS2 := zh hs2; have hsb := HB1.out.size; have HO2 : Hid (∀ k, v2.ownBlock = some k → w3.heap.size ≤ k) := zh (fun k hk => by rcases ha2 with h | h <;> rw [h] at hk <;> first | exact HO1.out _ hk | (have := Option.some.inj hk; simp at this; omega)); clear hs2 hf2 ha2)
                | (at_builtin; refine wpList_append_sl _ rfl (.tmp 56) (.tmp 62) _ rfl B 69 i0 _ 5 40 Tryz.underlying40 hi hz0 hz1 hz2 rfl (by omega) v2 (0 + i + 1) _ rfl HS2.out wb.heap.size (some ⟨bl, ol + i * 5, none⟩) (l.length - i) (cap - i) ((l.drop i).flatMap wcells) (by simp [Act.eval, Act.put]) HL2.out (RDD.out wb HB1.out) (wcells_one _) (by unfold maxLen; omega) (by omega) (by omega) ?_; intro v3 wc hs3 hf3 ha3; rw [show 0 + i + 1 + (l.length - i) = l.length + 1 by omega] at hs3; have HC1 : Hid (Fresh w3 wc) := zh (HB1.out.trans' hf3 (fun i hi hk => by have := HO2.out _ hk; omega)); obtain ⟨A3, c3, rfl, _⟩ := hs3.shape; have hbc := (HQW.out.fresh HC1.out).blk; have hcc : wc.cell? ⟨b, 0, none⟩ = some (.slice (some ⟨bl, ol, none⟩) l.length cap) := hbc.cell 0; have hcf := hbc.frozen 0; have HPUT := zh (putR hge (((HF0.out.trans HF1.out).trans HFF.out).trans HC1.out) hbc hs3); clear hs3 hf3 ha3 hbc))
              go_ret
              exact ⟨by rw [HADD.out]; exact rfl, by rw [HADD.out]; exact ⟨_, ⟨HPUT.out.1, hge, by show Sl _ _ _ _ _ (ins _ l).length _; rw [HINL.out, HPARTS.out]; exact HPUT.out.2.1⟩, HPUT.out.2.2⟩⟩
          · obtain rfl : i = cn := by omega
            have hli : i = l.length := by omega
            have hlti : decide ((i : Int) < (l.length : Int)) = false := by simp; omega
            clear hc0
            have hcq : ∀ n, (wr.drewN n).cell? ⟨b, 0, none⟩ = some (.slice A l.length cap) := fun _ => HQR.out.blk.cell 0
            go_wp2_with fail
            go_quiet (fail)
            rename_i nq
            have HFF := zh (hf.drewN nq)
            clear hcq HQR HF hf hlti
            obtain ⟨w3, hw3⟩ : ∃ w3, wr.drewN nq = w3 := ⟨_, rfl⟩
            rw [hw3] at HFF ⊢
            clear hw3
            have HQW := zh (HQ1.out.fresh HFF.out)
            by_cases hci : cap = i
            · obtain rfl : cap = l.length := by omega
              subst hci
              have hcw : w3.cell? ⟨b, 0, none⟩ = some (.slice A l.length l.length) := HQW.out.blk.cell 0
              obtain ⟨a0, a1, a2, a3, a4⟩ := BX.out w3 (HF1.out.trans HFF.out)
              dsimp only at a0 a1 a2 a3 a4
              have RT : Hid (Rd (w3.alloc (.cells #[] 69)) w3.heap.size A ((l.take l.length).flatMap wcells)) := zh (by rw [wcells_take]; exact (HQW.out.sl.rd.take _).alloc (Nat.le_refl _) _)
              have RDD : Hid (∀ w', Fresh w3 w' → Rd w' w'.heap.size A ((l.drop l.length).flatMap wcells)) := zh (fun w' F => by rw [List.drop_length]; exact Rd.nil _ _ _)
              have hblt := HQW.out.blk.lt
              have hge := HQW.out.ge
              have S0 := zh (sl_zero w3 B (by omega))
              have hil1 : l.length ≤ l.length := by omega
              have HL1 : Hid (((l.take l.length).flatMap wcells).length = l.length * 5) := zh (by rw [wcells_len, List.length_take, Nat.min_eq_left hil1])
              have HL2 : Hid (((l.drop l.length).flatMap wcells).length = 0 * 5) := zh (by rw [wcells_len, List.length_drop]; omega)
              have k0 : (0 : Int) ≤ (l.length : Int) := by omega
              have k1 : (l.length : Int) ≤ (l.length : Int) := by omega
              have k2 : (l.length : Int) ≤ (l.length : Int) := by omega
              have k3 : (l.length : Int) ≤ (l.length : Int) := by omega
              unfold maxLen at hcm
              clear hlt
              go_wp2_with (first
                | (at_builtin; refine wpList_append_sl _ rfl (.tmp 43) (.tmp 49) _ rfl B 69 i0 _ 5 40 Tryz.underlying40 hi hz0 hz1 hz2 rfl (by omega) (.slice (some ⟨w3.heap.size, 0, none⟩) 0 0) 0 [] rfl S0.out w3.heap.size A l.length l.length ((l.take l.length).flatMap wcells) rfl HL1.out RT.out (wcells_one _) (by unfold maxLen; omega) (by omega) (by simp; omega) ?_; intro v1 wa hs1 hf1 ha1; have HA1 : Hid (Fresh w3 wa) := zh (((Frm.refl _ w3).alloc _).trans' hf1 (fun i hi hk => by have := own_at hk; omega)); obtain ⟨b0, b1, b2, b3, b4⟩ := BX.out wa ((HF1.out.trans HFF.out).trans HA1.out); dsimp only at b0 b1 b2 b3 b4; have HS1 := zh (hs1.alloc (.cells #[.int .i64 xi, .int .i64 xc, .int .i64 xm, .int .i64 xt, .float .f64 xs] 69)); have HR1 := zh (rd_new wa (wcells ⟨xi, xc, xm, xt, xs⟩) 69); have hsa := HA1.out.size; have HO1 : Hid (∀ k, v1.ownBlock = some k → w3.heap.size ≤ k) := zh (fun k hk => by rcases ha1 with h | h <;> rw [h] at hk <;> first | (have := own_at hk; omega) | (have := Option.some.inj hk; simp at this; omega)); clear hs1 hf1 ha1)
                | (at_builtin; refine wpList_append_sl _ rfl (.tmp 51) (.tmp 53) _ rfl B 69 i0 _ 5 40 Tryz.underlying40 hi hz0 hz1 hz2 rfl (by omega) v1 (0 + l.length) _ rfl HS1.out (wa.heap.size + 1) (some ⟨wa.heap.size, 0, none⟩) 1 1 (wcells ⟨xi, xc, xm, xt, xs⟩) rfl (by rfl) HR1.out HX1.out (by unfold maxLen; omega) (by omega) (by simp; omega) ?_; intro v2 wb hs2 hf2 ha2; have HB1 : Hid (Fresh w3 wb) := zh ((HA1.out.alloc _).trans' hf2 (fun i hi hk => by have := HO1.out _ hk; omega)); have hcb : wb.cell? ⟨b, 0, none⟩ = some (.slice A l.length l.length) := (HQW.out.fresh HB1.out).blk.cell 0; have HS2 := zh hs2; have hsb := HB1.out.size; have HO2 : Hid (∀ k, v2.ownBlock = some k → w3.heap.size ≤ k) := zh (fun k hk => by rcases ha2 with h | h <;> rw [h] at hk <;> first | exact HO1.out _ hk | (have := Option.some.inj hk; simp at this; omega)); clear hs2 hf2 ha2)
                | (at_builtin; refine wpList_append_sl _ rfl (.tmp 56) (.tmp 62) _ rfl B 69 i0 _ 5 40 Tryz.underlying40 hi hz0 hz1 hz2 rfl (by omega) v2 (0 + l.length + 1) _ rfl HS2.out wb.heap.size A 0 0 ((l.drop l.length).flatMap wcells) (by simp [Act.eval, Act.put]) HL2.out (RDD.out wb HB1.out) (wcells_one _) (by unfold maxLen; omega) (by omega) (by omega) ?_; intro v3 wc hs3 hf3 ha3; rw [show 0 + l.length + 1 + 0 = l.length + 1 by omega] at hs3; have HC1 : Hid (Fresh w3 wc) := zh (HB1.out.trans' hf3 (fun i hi hk => by have := HO2.out _ hk; omega)); obtain ⟨A3, c3, rfl, _⟩ := hs3.shape; have hbc := (HQW.out.fresh HC1.out).blk; have hcc : wc.cell? ⟨b, 0, none⟩ = some (.slice A l.length l.length) := hbc.cell 0; have hcf := hbc.frozen 0; have HPUT := zh (putR hge (((HF0.out.trans HF1.out).trans HFF.out).trans HC1.out) hbc hs3); clear hs3 hf3 ha3 hbc))
              go_ret
              exact ⟨by rw [HADD.out]; exact rfl, by rw [HADD.out]; exact ⟨_, ⟨HPUT.out.1, hge, by show Sl _ _ _ _ _ (ins _ l).length _; rw [HINL.out, HPARTS.out]; exact HPUT.out.2.1⟩, HPUT.out.2.2⟩⟩
            · obtain ⟨bl, ol, rfl⟩ : ∃ bl ol, A = some ⟨bl, ol, none⟩ := by
                rcases HQ1.out.sl.2 with ⟨h, h0⟩ | ⟨g, o, c, cur, h, _⟩
                · injection h with _ _ h
                  omega
                · injection h with h _ _
                  exact ⟨g, o, h⟩
              have hcw : w3.cell? ⟨b, 0, none⟩ = some (.slice (some ⟨bl, ol, none⟩) l.length cap) := HQW.out.blk.cell 0
              clear hli
              obtain ⟨a0, a1, a2, a3, a4⟩ := BX.out w3 (HF1.out.trans HFF.out)
              dsimp only at a0 a1 a2 a3 a4
              have RT : Hid (Rd (w3.alloc (.cells #[] 69)) w3.heap.size (some ⟨bl, ol, none⟩) ((l.take i).flatMap wcells)) := zh (by rw [wcells_take]; exact (HQW.out.sl.rd.take _).alloc (Nat.le_refl _) _)
              have RDD : Hid (∀ w', Fresh w3 w' → Rd w' w'.heap.size (some ⟨bl, ol + i * 5, none⟩) ((l.drop i).flatMap wcells)) := zh (fun w' F => by rw [wcells_drop]; exact rd_drop (HQW.out.fresh F).sl.rd)
              have hblt := HQW.out.blk.lt
              have hge := HQW.out.ge
              have S0 := zh (sl_zero w3 B (by omega))
              have hil1 : i ≤ l.length := by omega
              have HL1 : Hid (((l.take i).flatMap wcells).length = i * 5) := zh (by rw [wcells_len, List.length_take, Nat.min_eq_left hil1])
              have HL2 : Hid (((l.drop i).flatMap wcells).length = (l.length - i) * 5) := zh (by rw [wcells_len, List.length_drop])
              have k0 : (0 : Int) ≤ (i : Int) := by omega
              have k1 : (i : Int) ≤ (l.length : Int) := by omega
              have k2 : (l.length : Int) ≤ (cap : Int) := by omega
              have k3 : (i : Int) ≤ (cap : Int) := by omega
              unfold maxLen at hcm
              clear hlt
              go_wp2_with (first
                | (at_builtin; refine wpList_append_sl _ rfl (.tmp 43) (.tmp 49) _ rfl B 69 i0 _ 5 40 Tryz.underlying40 hi hz0 hz1 hz2 rfl (by omega) (.slice (some ⟨w3.heap.size, 0, none⟩) 0 0) 0 [] rfl S0.out w3.heap.size (some ⟨bl, ol, none⟩) i cap ((l.take i).flatMap wcells) rfl HL1.out RT.out (wcells_one _) (by unfold maxLen; omega) (by omega) (by simp; omega) ?_; intro v1 wa hs1 hf1 ha1; have HA1 : Hid (Fresh w3 wa) := zh (((Frm.refl _ w3).alloc _).trans' hf1 (fun i hi hk => by have := own_at hk; omega)); obtain ⟨b0, b1, b2, b3, b4⟩ := BX.out wa ((HF1.out.trans HFF.out).trans HA1.out); dsimp only at b0 b1 b2 b3 b4; have HS1 := zh (hs1.alloc (.cells #[.int .i64 xi, .int .i64 xc, .int .i64 xm, .int .i64 xt, .float .f64 xs] 69)); have HR1 := zh (rd_new wa (wcells ⟨xi, xc, xm, xt, xs⟩) 69); have hsa := HA1.out.size; have HO1 : Hid (∀ k, v1.ownBlock = some k → w3.heap.size ≤ k) := zh (fun k hk => by rcases ha1 with h | h <;> rw [h] at hk <;> first | (have := own_at hk; omega) | (have := Option.some.inj hk; simp at this; omega)); clear hs1 hf1 ha1)
                | (at_builtin; refine wpList_append_sl _ rfl (.tmp 51) (.tmp 53) _ rfl B 69 i0 _ 5 40 Tryz.underlying40 hi hz0 hz1 hz2 rfl (by omega) v1 (0 + i) _ rfl HS1.out (wa.heap.size + 1) (some ⟨wa.heap.size, 0, none⟩) 1 1 (wcells ⟨xi, xc, xm, xt, xs⟩) rfl (by rfl) HR1.out HX1.out (by unfold maxLen; omega) (by omega) (by simp; omega) ?_; intro v2 wb hs2 hf2 ha2; have HB1 : Hid (Fresh w3 wb) := zh ((HA1.out.alloc _).trans' hf2 (fun i hi hk => by have := HO1.out _ hk; omega)); have hcb : wb.cell? ⟨b, 0, none⟩ = some (.slice (some ⟨bl, ol, none⟩) l.length cap) := (HQW.out.fresh HB1.out).blk.cell 0; have HS2 := zh hs2; have hsb := HB1.out.size; have HO2 : Hid (∀ k, v2.ownBlock = some k → w3.heap.size ≤ k) := zh (fun k hk => by rcases ha2 with h | h <;> rw [h] at hk <;> first | exact HO1.out _ hk | (have := Option.some.inj hk; simp at this; omega)); clear hs2 hf2 ha2)
                | (at_builtin; refine wpList_append_sl _ rfl (.tmp 56) (.tmp 62) _ rfl B 69 i0 _ 5 40 Tryz.underlying40 hi hz0 hz1 hz2 rfl (by omega) v2 (0 + i + 1) _ rfl HS2.out wb.heap.size (some ⟨bl, ol + i * 5, none⟩) (l.length - i) (cap - i) ((l.drop i).flatMap wcells) (by simp [Act.eval, Act.put]) HL2.out (RDD.out wb HB1.out) (wcells_one _) (by unfold maxLen; omega) (by omega) (by omega) ?_; intro v3 wc hs3 hf3 ha3; rw [show 0 + i + 1 + (l.length - i) = l.length + 1 by omega] at hs3; have HC1 : Hid (Fresh w3 wc) := zh (HB1.out.trans' hf3 (fun i hi hk => by have := HO2.out _ hk; omega)); obtain ⟨A3, c3, rfl, _⟩ := hs3.shape; have hbc := (HQW.out.fresh HC1.out).blk; have hcc : wc.cell? ⟨b, 0, none⟩ = some (.slice (some ⟨bl, ol, none⟩) l.length cap) := hbc.cell 0; have hcf := hbc.frozen 0; have HPUT := zh (putR hge (((HF0.out.trans HF1.out).trans HFF.out).trans HC1.out) hbc hs3); clear hs3 hf3 ha3 hbc))
              go_ret
              exact ⟨by rw [HADD.out]; exact rfl, by rw [HADD.out]; exact ⟨_, ⟨HPUT.out.1, hge, by show Sl _ _ _ _ _ (ins _ l).length _; rw [HINL.out, HPARTS.out]; exact HPUT.out.2.1⟩, HPUT.out.2.2⟩⟩
end
section
open Go.RowKit
def PutPost (w : World) (B c : Nat) (n : Nat) (e : Ending) (w' : World) : Prop :=
  e = .returned (.tuple #[]) ∧ ∃ v' bs', OutB w' B c v' bs' ∧ bs'.length ≤ n ∧ OutF B w w'
theorem num_le9 {n : Nat} (h : n < 18446744073709551616) : (FieldM.num n).length ≤ 9 := by
  have := FieldM.num_length n
  have := FieldM.wid_le h
  omega
theorem put_any (w : World) (B c : Nat) (hB : B ≤ w.heap.size) (v : Value) (bs : List UInt8) (h : OutB w B c v bs) (D : Nat) (A : Option Addr) (cap : Nat) (l : List Int) (hA : Sl w D 3 1 (.slice A l.length cap) l.length (ivs l)) (hl : l.length ≤ 100000) (n : Nat) (hn : bs.length + 9 * l.length ≤ n) (hm : n ≤ 10000000000000) :
    Calls Tryz.prog 88 #[.slice A l.length cap, .pointer (some ⟨c, 0, none⟩)] w fun e w' => PutPost w B c n e w' := by
  obtain ⟨i0, hi', hz0, hz1, hz2⟩ := info_parts info_u8
  have HH := zh h
  have HA := zh hA
  clear h hA
  go_in
  go_wp2_with fail
  go_loopw [7] (fun v7 wr => ∃ (i : Nat) (v' : Value) (bs' : List UInt8), i ≤ l.length ∧ v7 = .int .i64 (i : Int) ∧ OutB wr B c v' bs' ∧ bs'.length ≤ bs.length + 9 * i ∧ OutF B w wr) (fun v7 _ => l.length - (RowKit.intOf v7).toNat)
  case atStart => exact ⟨0, v, bs, by omega, rfl, HH.out, by omega, OutF.refl _ _⟩
  case round =>
    obtain ⟨i, v', bs', hi, rfl, ho, hbl, hf⟩ := hrel
    have hi0 : (0 : Int) ≤ (i : Int) := by omega
    have HO := zh ho
    have HF := zh hf
    have hsl := hf.sl HA.out (by decide) (by decide)
    clear ho hf
    by_cases hlt : i < l.length
    · have hlti : (i : Int) < (l.length : Int) := by omega
      obtain ⟨b, o, rfl, _, hc⟩ := hsl.rd.at_ (k := i) (by unfold ivs; simpa using hlt)
      unfold ivs at hc
      rw [List.getElem_map] at hc
      generalize l[i] = x at hc
      clear hsl
      obtain ⟨m, hm'⟩ : ∃ m, m = (x % 18446744073709551616).toNat := ⟨_, rfl⟩
      have hmb : m < 18446744073709551616 := by
        have := Int.emod_nonneg x (b := 18446744073709551616) (by decide)
        have := Int.emod_lt_of_pos x (b := 18446744073709551616) (by decide)
        omega
      have HCV : Hid (∀ w, (convert 3 105 (.int .i64 x)).run Tryz.prog w = .ok (.int .u64 (m : Int)) w) := zh fun w => by rw [hm']; exact conv64 x w
      clear hm'
      go_wp2_with fail
      have HN : Hid (∀ w', Calls Tryz.prog 86 #[.int .u64 (m : Int)] w' fun e w2 => ∃ v, e = .returned v ∧ Sl w2 w'.heap.size 5 1 v (FieldM.num m).length ((FieldM.num m).map bv) ∧ Fresh w' w2) := zh fun w' => number_any m hmb w'
      have hcell : ∀ w', Fresh wr w' → w'.cell? ⟨c, 0, none⟩ = some v' ∧ w'.frozen? ⟨c, 0, none⟩ = false := fun w' F => ⟨(HO.out.fresh F).1.cell 0, (HO.out.fresh F).1.frozen 0⟩
      have HC := zh hcell
      clear hcell
      have hl9 := num_le9 hmb
      obtain ⟨cs, hcs⟩ : ∃ cs, cs = FieldM.num m := ⟨_, rfl⟩
      rw [← hcs] at HN hl9
      clear hcs hmb
      have HFIN : Hid (∀ w1 w2 v2, Fresh wr w1 → Sl w2 B 5 1 v2 (bs'.length + cs.length) (bs'.map bv ++ cs.map bv) → Frm (fun k => v'.ownBlock = some k) w1 w2 → OutB (w2.setCell ⟨c, 0, none⟩ v2) B c v2 (bs' ++ cs) ∧ OutF B w (w2.setCell ⟨c, 0, none⟩ v2)) := zh fun w1 w2 v2 F1 hs F2 => by
        have := HO.out.put F1 hs F2
        exact ⟨this.1, HF.out.trans this.2⟩
      have HCL : Hid (∀ w1 w2, Fresh wr w1 → Frm (fun k => v'.ownBlock = some k) w1 w2 → w2.frozen? ⟨c, 0, none⟩ = false ∧ w2.cell? ⟨c, 0, none⟩ = some v') := zh fun w1 w2 F1 F2 => by
        have hb1 := (HO.out.fresh F1).1
        have hb2 := hb1.frm F2 ((HO.out.fresh F1).2.2.apart hb1 (by decide))
        exact ⟨hb2.frozen 0, hb2.cell 0⟩
      have HBW : Hid (B ≤ wr.heap.size) := zh (Nat.le_trans hB HF.out.size)
      have hbig : bs'.length + cs.length ≤ 10000000000000 := by omega
      refine wp_region_held_drew (S := fun w' => True) (by kernel_rfl) trivial (fun hHeld => ?_)
      have e1 := HCV.out
      (refine zt 1 (v := ?_) (zo rfl) ?_; try simp only [Act.put, zT, zZ, zS])
      (refine ztn (v := ?_) (zo rfl) ?_; try simp only [Act.put, zT, zZ, zS])
      refine zr2 0 3 (zo rfl) (zo rfl) (fun K hK => ?_) (fun K hK => ?_)
      · have q1 := (HC.out wr.drew (Frm.refl _ _).drew).1
        go_simp
        refine hK.out _ _ trivial (fun _ => ?_)
        clear hK K q1
        try simp only [Act.put, zT, zZ, zS]
        refine zr1 3 (zo rfl) (fun K hK => ?_)
        go_simp
        refine (HN.out wr.drew).mono ?_
        rintro e w2 ⟨v2, rfl, hs2, f2⟩
        obtain ⟨A2, c2, rfl, n2, m2, _⟩ := hs2.shape
        have F2 : Fresh wr w2 := (Frm.refl _ _).drew.trans f2
        refine hK.out _ _ trivial (fun _ => ?_)
        clear hK K
        try simp only [Act.put, zT, zZ, zS]
        refine zr1 4 (zo rfl) (fun K hK => ?_)
        refine step_append_sl (by rfl) (.tmp 11) (.tmp 14) 56 (by rfl) B 5 i0 _ 1 1 Tryz.underlying56 hi' hz0 hz1 hz2 rfl (by omega) v' bs'.length (bs'.map bv) (by rfl) (HO.out.fresh F2).2.2 _ A2 cs.length c2 (cs.map bv) (by rfl) (by rw [List.length_map, Nat.mul_one]) hs2.rd (bv_one _) (by unfold maxLen; omega) (by omega) (Nat.le_trans HBW.out F2.size) ?_
        intro v5 w5 hs5 hf5 ha5
        obtain ⟨A5, c5, rfl, _, _, _⟩ := hs5.shape
        have HR := zh (HFIN.out w2 w5 _ F2 hs5 hf5)
        obtain ⟨q2, q3⟩ := HCL.out w2 w5 F2 hf5
        refine hK.out _ _ trivial (fun _ => ?_)
        clear hK K hs2 f2 F2 hs5 hf5 ha5
        try simp only [Act.put, zT, zZ, zS]
        refine zr1 5 (zo rfl) (fun K hK => ?_)
        go_simp
        refine hK.out _ _ trivial (fun _ => ?_)
        clear hK K
        try simp only [Act.put, zT, zZ, zS]
        refine wpAnyH_done (by kernel_rfl) ?_ _
        go_wp2_with fail
        go_roundw
        case rel => exact ⟨i + 1, _, bs' ++ cs, by omega, by go_num, HR.out.1, by rw [List.length_append]; omega, HR.out.2⟩
        case measure => simp [RowKit.intOf]; omega
      · go_simp
        refine (HN.out wr.drew).mono ?_
        rintro e w2 ⟨v2, rfl, hs2, f2⟩
        obtain ⟨A2, c2, rfl, n2, m2, _⟩ := hs2.shape
        have F2 : Fresh wr w2 := (Frm.refl _ _).drew.trans f2
        refine hK.out _ _ trivial (fun _ => ?_)
        clear hK K
        try simp only [Act.put, zT, zZ, zS]
        have q1 := (HC.out w2 F2).1
        refine zr1 0 (zo rfl) (fun K hK => ?_)
        go_simp
        refine hK.out _ _ trivial (fun _ => ?_)
        clear hK K q1
        try simp only [Act.put, zT, zZ, zS]
        refine zr1 4 (zo rfl) (fun K hK => ?_)
        refine step_append_sl (by rfl) (.tmp 11) (.tmp 14) 56 (by rfl) B 5 i0 _ 1 1 Tryz.underlying56 hi' hz0 hz1 hz2 rfl (by omega) v' bs'.length (bs'.map bv) (by rfl) (HO.out.fresh F2).2.2 _ A2 cs.length c2 (cs.map bv) (by rfl) (by rw [List.length_map, Nat.mul_one]) hs2.rd (bv_one _) (by unfold maxLen; omega) (by omega) (Nat.le_trans HBW.out F2.size) ?_
        intro v5 w5 hs5 hf5 ha5
        obtain ⟨A5, c5, rfl, _, _, _⟩ := hs5.shape
        have HR := zh (HFIN.out w2 w5 _ F2 hs5 hf5)
        obtain ⟨q2, q3⟩ := HCL.out w2 w5 F2 hf5
        refine hK.out _ _ trivial (fun _ => ?_)
        clear hK K hs2 f2 F2 hs5 hf5 ha5
        try simp only [Act.put, zT, zZ, zS]
        refine zr1 5 (zo rfl) (fun K hK => ?_)
        go_simp
        refine hK.out _ _ trivial (fun _ => ?_)
        clear hK K
        try simp only [Act.put, zT, zZ, zS]
        refine wpAnyH_done (by kernel_rfl) ?_ _
        go_wp2_with fail
        go_roundw
        case rel => exact ⟨i + 1, _, bs' ++ cs, by omega, by go_num, HR.out.1, by rw [List.length_append]; omega, HR.out.2⟩
        case measure => simp [RowKit.intOf]; omega
    · have hlti : ¬ (i : Int) < (l.length : Int) := by omega
      go_wp2_with fail
      go_end0
      exact ⟨rfl, _, _, HO.out, by omega, HF.out⟩
def PutC (w : World) (p c : Nat) : Prop := Blk w p 118 #[.func (.func 88) #[] #[.pointer (some ⟨c, 0, none⟩)]]
theorem PutC.outF {B : Nat} {w w' : World} {p c : Nat} (h : PutC w p c) (F : OutF B w w') : PutC w' p c := F.blk h (by decide) (by decide)
theorem putl_any (w : World) (B c p : Nat) (hB : B ≤ w.heap.size) (hp : PutC w p c) (v : Value) (bs : List UInt8) (h : OutB w B c v bs) (D : Nat) (A : Option Addr) (cap : Nat) (l : List Int) (hA : Sl w D 3 1 (.slice A l.length cap) l.length (ivs l)) (hl : l.length ≤ 100000) (n : Nat) (hn : bs.length + 9 * (l.length + 1) ≤ n) (hm : n ≤ 10000000000000) :
    Calls Tryz.prog 89 #[.slice A l.length cap, .pointer (some ⟨p, 0, none⟩)] w fun e w' => PutPost w B c n e w' := by
  have y1 : w.cell? ⟨p, 0, none⟩ = some (.func (.func 88) #[] #[.pointer (some ⟨c, 0, none⟩)]) := hp.cell 0
  have FW : Fresh w (w.alloc (.cells #[.int .i64 (l.length : Int)] 3)) := fresh_alloc _ _
  have HFW := zh FW
  have S1 : Hid (Sl (w.alloc (.cells #[.int .i64 (l.length : Int)] 3)) w.heap.size 3 1 (.slice (some ⟨w.heap.size, 0, none⟩) 1 1) 1 (ivs [(l.length : Int)])) := zh (sl_new w w.heap.size [.int .i64 (l.length : Int)] 3 (Nat.le_refl _) (by simp [maxLen]))
  have HP := zh (put_any (w.alloc (.cells #[.int .i64 (l.length : Int)] 3)) B c (Nat.le_trans hB FW.size) v bs (h.fresh FW) w.heap.size (some ⟨w.heap.size, 0, none⟩) 1 [(l.length : Int)] S1.out (by simp) (bs.length + 9) (by simp) (by omega))
  have HA := zh (hA.fresh FW)
  have HPC := zh (hp.outF (OutF.of (B := B) FW))
  have HPX : Hid (∀ w', OutF B w w' → PutC w' p c) := zh fun w' F => hp.outF F
  clear FW h hA hp
  go_in
  go_wp2_with fail
  show Calls _ _ #[.slice (some ⟨w.heap.size, 0, none⟩) 1 1, .pointer (some ⟨c, 0, none⟩)] _ _
  refine HP.out.mono ?_
  rintro e w2 ⟨rfl, v2, bs2, ho2, hl2, hf2⟩
  have HF2 : Hid (OutF B w w2) := zh ((OutF.of HFW.out).trans hf2)
  have y2 : w2.cell? ⟨p, 0, none⟩ = some (.func (.func 88) #[] #[.pointer (some ⟨c, 0, none⟩)]) := (HPX.out w2 HF2.out).cell 0
  have HQ := zh (put_any w2 B c (Nat.le_trans hB (Frm.size HF2.out)) v2 bs2 ho2 D A cap l (hf2.sl HA.out (by decide) (by decide)) hl n (by omega) hm)
  clear ho2 hf2
  go_wp2_with fail
  refine HQ.out.mono ?_
  rintro e w3 ⟨rfl, v3, bs3, ho3, hl3, hf3⟩
  have HR : Hid (∃ v' bs', OutB w3 B c v' bs' ∧ bs'.length ≤ n ∧ OutF B w w3) := zh ⟨v3, bs3, ho3, hl3, HF2.out.trans hf3⟩
  clear ho3 hf3
  go_wp2_with fail
  go_end0
  exact ⟨rfl, HR.out⟩
end
end Go.Proofs.YtbeaoddjomdlcaaGreatDoor

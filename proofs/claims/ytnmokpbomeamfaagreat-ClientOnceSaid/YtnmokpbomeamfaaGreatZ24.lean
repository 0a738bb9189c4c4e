/- Proved here, for the statement ClientOnceSaid: laws that its walk leans on. It holds with no condition. (Put together and shortened by a program out of many texts: On63.) -/
import Derived.Test.YtnmokpbomeamfaaGreatZ23
import Derived.Deep.CutRange
set_option linter.unusedVariables false
set_option maxRecDepth 100000
set_option maxHeartbeats 64000000
namespace Go.Proofs.YtnmokpbomeamfaaGreat
section
open Go.RowKit
theorem info_bs : (Tryz.prog.info? 39).map (fun i => (i.zero, i.size, i.bytes)) = some (some (.slice none 0 0), 1, 24) := by kernel_rfl
section
variable {w w' : World} {B : Nat} {L : CL} {l : List Int} {ks rs : List BsM} {x : CSt} {op : List Int}
theorem Cc.clr (h : Cc w B L l ks rs x op) (ho : w'.ownsMap Tryz.prog 3 (plainElem Tryz.prog 4) L.mb 0 (.map [] : DU)) (F : Frm (fun k => some L.mb = some k) w w') : Cc w' B L l ks rs x [] := by
 have hmn : ∀ {B' e size n : Nat} {v : Value} {xs : List Value}, Sl w B' e size v n xs → ∀ k, v.ownBlock = some k → ¬ (some L.mb = some k) := fun hs k hk e => h.own_m hs (by rw [e]; exact hk)
 refine ⟨h.blk.frm F (fun e => h.ne (zE e)), ⟨0, _, ho, zF _, fun z => rfl⟩, h.sl.frm F (hmn h.sl), h.ksl.frm F (hmn h.ksl), fun m hm => (h.kel m hm).frm F (fun k cs hb e => ?_), h.rsl.frm F (hmn h.rsl), fun m hm => (h.rel m hm).frm F (fun k cs hb e => ?_), h.ap, h.bge, h.mge, h.pos⟩
 ·obtain ⟨n0, D0, h0, _⟩ := h.om
  exact OM.not_cells h0 hb (zE e)
 ·obtain ⟨n0, D0, h0, _⟩ := h.om
  exact OM.not_cells h0 hb (zE e)
theorem Cc.push (h : Cc w B L l ks rs x op) (m : BsM) (hm : bsE w m) {w1 : World} {A' : Option Addr} {c' : Nat} (hs : Sl w1 B 39 1 (.slice A' (rs.length + 1) c') (rs.length + 1) (rs.map BsM.v ++ [m.v])) (F : Frm (fun k => (Value.slice L.RA rs.length L.rc).ownBlock = some k) w w1)
 (ha : (Value.slice A' (rs.length + 1) c').ownBlock = (Value.slice L.RA rs.length L.rc).ownBlock ∨ (Value.slice A' (rs.length + 1) c').ownBlock = some w.heap.size) :
 Cc (w1.setCell ⟨L.b, 9, none⟩ (.slice A' (rs.length + 1) c')) B { L with RA := A', rc := c' } l ks (rs ++ [m]) x op ∧ Frm (CS L rs.length) w (w1.setCell ⟨L.b, 9, none⟩ (.slice A' (rs.length + 1) c')) := by
 have hu : ∀ k cs, Blk w k 5 cs → ¬ ((Value.slice L.RA rs.length L.rc).ownBlock = some k) := fun k cs hb e => h.rsl.apart hb (by decide) e
 have hb1 : Blk w1 L.b 57 (ccl L l.length ks.length rs.length x).toArray := h.blk.frm F (fun e => h.rsl.apart h.blk (by decide) e)
 have h1 : Sl w1 B 3 1 (.slice L.A l.length L.nc) l.length (l.map civ) := h.sl.frm F (fun k hk e => h.rsl.differ h.sl (by decide) e hk)
 have h2 : Sl w1 B 39 1 (.slice L.KA ks.length L.kc) ks.length (ks.map BsM.v) := h.ksl.frm F (fun k hk e => h.ap k e hk)
 have h3 : ∀ m ∈ ks, bsE w1 m := fun m hm => (h.kel m hm).frm F hu
 have h4 : ∀ m' ∈ rs ++ [m], bsE w1 m' := fun m' hm' => by
  rcases zy.1 hm' with e | e
  ·exact (h.rel m' e).frm F hu
  ·rw [zO.1 e]; exact hm.frm F hu
 obtain ⟨n, D, ho, hn, hD⟩ := h.om
 have ho1 := OM.frm ho F (fun e => h.own_m h.rsl e)
 have F2 : Frm (fun k => k = L.b) w1 (w1.setCell ⟨L.b, 9, none⟩ (.slice A' (rs.length + 1) c')) := (za (fun k => k = L.b) w1).setCell (p := ⟨L.b, 9, none⟩) (fun _ => rfl) _
 have hb2 := hb1.set 9 (.slice A' (rs.length + 1) c')
 rw [List.setIfInBounds_toArray] at hb2
 have hu2 : ∀ k cs, Blk w1 k 5 cs → ¬ (k = L.b) := fun k cs hb e => by subst e; exact hb.apart hb1 (by decide) rfl
 refine ⟨⟨?_, ⟨n, D, OM.frm ho1 F2 h.ne, hn, hD⟩, h1.frm F2 (fun k hk e => by subst e; exact h1.apart hb1 (by decide) hk), h2.frm F2 (fun k hk e => by subst e; exact h2.apart hb1 (by decide) hk), fun m hm => (h3 m hm).frm F2 hu2, ?_, fun m hm => (h4 m hm).frm F2 hu2, ?_, h.bge, h.mge, h.pos⟩, ?_⟩
 ·rw [zg]
  exact hb2
 ·have hh := hs.frm F2 (fun k hk e => by subst e; exact hs.apart hb1 (by decide) hk)
  rw [zg, zn]
  exact hh
 ·intro k hk hkk
  rw [zg] at hk
  have hk' : (Value.slice A' (rs.length + 1) c').ownBlock = some k := hk
  rcases ha with e | e
  ·exact h.ap k (by rw [← e]; exact hk') hkk
  ·rw [e] at hk'
   have := (h.ksl.lt _ hkk).2
   injection hk' with hk'
   omega
 ·exact Frm.trans' (Frm.mono F (fun k _ e => .inr (.inr e))) F2 (fun k _ e => .inl e)
end
theorem other_c (w : World) (p7 p5 : Nat) (rq : Rq) (A7 : Option Addr) (c7 : Nat) (d : Td) (A5 : Option Addr) (c5 : Nat) (h7 : Blk w p7 67 (rcel rq A7 c7).toArray) (h5 : Blk w p5 73 (tcel d A5 c5).toArray) (ho : rq.kind ≠ 2 ∨ (d.client = rq.client ∧ d.seq = rq.seq)) :
 Calls Tryz.prog 52 #[.pointer (some ⟨p7, 0, none⟩), .pointer (some ⟨p5, 0, none⟩)] w fun e w' => e = .returned (.bool false) ∧ w' = w := by
 obtain ⟨k, cl, sq, tk, cmd⟩ := rq
 obtain ⟨co, dc, ds, dr⟩ := d
 dsimp only at ho
 have y0 : w.cell? ⟨p7, 0, none⟩ = some (.int .i64 k) := h7.cell 0
 have y1 : w.cell? ⟨p7, 1, none⟩ = some (.int .i64 cl) := h7.cell 1
 have y2 : w.cell? ⟨p7, 2, none⟩ = some (.int .i64 sq) := h7.cell 2
 have z1 : w.cell? ⟨p5, 1, none⟩ = some (.int .i64 dc) := h5.cell 1
 have z2 : w.cell? ⟨p5, 2, none⟩ = some (.int .i64 ds) := h5.cell 2
 clear h7 h5
 by_cases hk : k = 2
 ·subst hk
  obtain ⟨rfl, rfl⟩ : dc = cl ∧ ds = sq := by rcases ho with e | e; exact absurd rfl e; exact e
  clear ho
  have e1 : (dc != dc) = false := by simp
  have e2 : (ds != ds) = false := by simp
  go_in
  go_wp2_with fail
  go_ret
  exact ⟨rfl, rfl⟩
 ·have d2 : (k == 2) = false := by simpa using hk
  clear ho
  go_in
  go_wp2_with fail
  go_ret
  exact ⟨rfl, rfl⟩
def toldX (x : CSt) (kn rn : Nat) (kind : Int) : CSt × Nat :=
 let y : CSt := if kind = 1 then { x with num := 1, wt := 0 } else if kind = 2 then { x with wt := 0, seq := x.seq + 1 } else { x with wt := 0 }
 let rn' := if kind = 1 then rn else rn + 1
 (if rn' = kn then { y with over := true, why := 0 } else y, rn')
def ToldP (w : World) (B : Nat) (L : CL) (l : List Int) (ks : List BsM) (rn : Nat) (rs' : List (List UInt8)) (x : CSt) (e : Ending) (w' : World) : Prop :=
 ∃ L' rs2, e = .returned (.bool true) ∧ (L'.b = L.b ∧ L'.mb = L.mb) ∧ rs2.map lenB = rs' ∧ Cc w' B L' l ks rs2 x [] ∧ Frm (CS L rn) w w'
theorem told_fin {w Z : World} {B : Nat} {L L' : CL} {l : List Int} {ks rs : List BsM} {rn : Nat} {rs' : List (List UInt8)} {x y : CSt} (h : Cc Z B L' l ks rs y []) (h1 : L'.b = L.b) (h2 : L'.mb = L.mb) (hx : x = y) (hr : rs.map lenB = rs') (F : Frm (CS L rn) w Z) : ToldP w B L l ks rn rs' x (.returned (.bool true)) Z := by
 subst hx
 exact ⟨L', rs, rfl, ⟨h1, h2⟩, hr, h, F⟩
theorem told_begin (w : World) (B : Nat) (L : CL) (l : List Int) (ks rs : List BsM) (x : CSt) (op : List Int) (h : Cc w B L l ks rs x op) (hx : CWf x) (hrs : rs.length ≤ 100) (hn : x.num = 0) (hk : x.num = 0 ∨ rs.length < ks.length) (h4 : ∀ m ∈ ks, m.b.length ≤ 4000) (hkn : ks.length ≤ 100)
 (A : Option Addr) (cap : Nat) (bs : List UInt8) (hA : Rd w w.heap.size A (bs.map bv)) (hl : bs.length ≤ 1000000) (hc : bs.length ≤ cap) (hm : cap ≤ maxLen) (d : Td) (hd : readT bs = (d, 0)) (hd0 : d.code = 0) (hd1 : d.client = 1)
 (rq : Rq) (hrq : reqC (ks.map lenB) rs.length x = rq) (hkd : rq.kind = 1) (hot : rq.kind ≠ 2 ∨ (d.client = rq.client ∧ d.seq = rq.seq)) :
 Calls Tryz.prog 26 #[.pointer (some ⟨L.b, 0, none⟩), .slice A bs.length cap] w fun e w' => ToldP w B L l ks rs.length (rs.map lenB) (toldX x ks.length rs.length 1).1 e w' := by
 have hmf : ∀ (fn : Fn) (first cap : Array Value) (w : World), (Instr.makeFunc fn first cap).run Tryz.prog w = .ok (.func fn first cap) w := fun _ _ _ _ => rfl
 obtain ⟨i0, hi0, hz0, hz1, hz2⟩ := info_parts info_bs
 have HRD := zh (sRead_any w A cap bs hA hl hc hm)
 have HC := zh h
 have HX := zh hx
 have HRQ : Hid (∀ w', Fresh w w' → Calls Tryz.prog 21 #[.pointer (some ⟨L.b, 0, none⟩)] w' fun e w'' => RqPost w' rq e w'') := zh fun w' F => by rw [← hrq]; exact request_c w' B L l ks rs x op (h.fresh F) hk h4
 have HOT := zh hot
 have HDD := zh hd
 have HKD := zh hkd
 clear h hx hk h4 hA hrq hot hd hkd
 go_in
 go_wp2_with fail
 refine HRD.out.mono ?_
 rintro e w1 ⟨A5, c5, code, d', hrd, rfl, hs5, f1⟩
 rw [HDD.out] at hrd
 obtain ⟨rfl, rfl⟩ : d = d' ∧ 0 = code := ⟨congrArg Prod.fst hrd, congrArg Prod.snd hrd⟩
 have HF1 := zh f1
 obtain ⟨tz, htz⟩ : ∃ z, z = tcel d A5 c5 := ⟨_, rfl⟩
 have HTZ := zh htz
 rw [← htz]
 obtain ⟨U1, hU1⟩ : ∃ U, w1.alloc (.cells #[.int .i64 0, .int .i64 0, .int .i64 0, .slice none 0 0] 73) = U := ⟨_, rfl⟩
 have HB1 : Hid (Blk U1 w1.heap.size 73 #[.int .i64 0, .int .i64 0, .int .i64 0, .slice none 0 0]) := zh (by rw [← hU1]; exact Blk.new _ _ _)
 have HTJ : Hid ((Tryz.prog.info? 73).map (·.size) = some tz.toArray.size) := zh (by rw [htz]; kernel_rfl)
 have HTO : Hid (tz.toArray.all (·.oneCell') = true) := zh (by rw [htz]; kernel_rfl)
 have HTT : Hid (U1.there w1.heap.size 0 tz.toArray.size) := zh (by rw [htz]; exact HB1.out.there rfl)
 obtain ⟨V1, hV1⟩ : ∃ V, U1.setCells w1.heap.size 0 tz = V := ⟨_, rfl⟩
 have HFV1 : Hid (Fresh w1 V1) := zh (by rw [← hV1, ← hU1]; exact (jC _ _).trans' (jE w1.heap.size tz 0 _) (fun k hk e => by omega))
 have HBT : Hid (Blk V1 w1.heap.size 73 tz.toArray) := zh (by rw [← hV1]; exact jG HB1.out (by rw [htz]; rfl))
 have HS1 := zh (hs5.fresh HFV1.out)
 have HFW1 := zh (HF1.out.trans HFV1.out)
 clear f1 hs5 hrd htz
 go_upto_region 2 with (first | (refine zd rfl 73 (.tmp 5) (.tmp 12) rfl w1.heap.size 0 tz.toArray rfl rfl HTT.out HTJ.out HTO.out ?_) | (rw [hU1]; refine zd rfl 73 (.tmp 5) (.tmp 12) rfl w1.heap.size 0 tz.toArray rfl rfl HTT.out HTJ.out HTO.out ?_))
 try rw [hV1]
 clear hV1 hU1 HTT HTJ HTO HB1
 generalize w1.heap.size = p5 at HBT
 go_wp2_with fail
 refine (HRQ.out V1 HFW1.out).mono ?_
 rintro e w2 ⟨A7, c7, rfl, _, f2, _⟩
 have HF2 := zh f2
 obtain ⟨qz, hqz⟩ : ∃ z, z = rcel rq A7 c7 := ⟨_, rfl⟩
 have HQZ := zh hqz
 rw [← hqz]
 obtain ⟨U2, hU2⟩ : ∃ U, w2.alloc (.cells #[.int .i64 0, .int .i64 0, .int .i64 0, .int .i64 0, .slice none 0 0] 67) = U := ⟨_, rfl⟩
 have HB2 : Hid (Blk U2 w2.heap.size 67 #[.int .i64 0, .int .i64 0, .int .i64 0, .int .i64 0, .slice none 0 0]) := zh (by rw [← hU2]; exact Blk.new _ _ _)
 have HQJ : Hid ((Tryz.prog.info? 67).map (·.size) = some qz.toArray.size) := zh (by rw [hqz]; kernel_rfl)
 have HQO : Hid (qz.toArray.all (·.oneCell') = true) := zh (by rw [hqz]; kernel_rfl)
 have HQT : Hid (U2.there w2.heap.size 0 qz.toArray.size) := zh (by rw [hqz]; exact HB2.out.there rfl)
 obtain ⟨V, hV⟩ : ∃ V, U2.setCells w2.heap.size 0 qz = V := ⟨_, rfl⟩
 have HFV2 : Hid (Fresh w2 V) := zh (by rw [← hV, ← hU2]; exact (jC _ _).trans' (jE w2.heap.size qz 0 _) (fun k hk e => by omega))
 have HBQ : Hid (Blk V w2.heap.size 67 qz.toArray) := zh (by rw [← hV]; exact jG HB2.out (by rw [hqz]; rfl))
 have HF12 := zh (HF2.out.trans HFV2.out)
 have HBV := zh (HBT.out.frm HF12.out (fun f => f))
 have HSV := zh (HS1.out.fresh HF12.out)
 have HFV := zh (HFW1.out.trans HF12.out)
 have HCV := zh (HC.out.fresh HFV.out)
 clear f2 hqz
 go_upto_region 3 with (first | (refine zd rfl 67 (.tmp 7) (.tmp 15) rfl w2.heap.size 0 qz.toArray rfl rfl HQT.out HQJ.out HQO.out ?_) | (rw [hU2]; refine zd rfl 67 (.tmp 7) (.tmp 15) rfl w2.heap.size 0 qz.toArray rfl rfl HQT.out HQJ.out HQO.out ?_))
 try rw [hV]
 clear hV hU2 HQT HQJ HQO HB2
 generalize w2.heap.size = p7 at HBQ
 rw [HTZ.out] at HBV
 rw [HQZ.out] at HBQ
 have HOC := zh (other_c V p7 p5 rq A7 c7 d A5 c5 HBQ.out HBV.out HOT.out)
 have t0 : V.cell? ⟨p5, 0, none⟩ = some (.int .i64 0) := by rw [HBV.out.cell 0, ← hd0]; rfl
 go_wp2_with fail
 refine HOC.out.mono ?_
 rintro e V3 ⟨rfl, hv3⟩
 replace hv3 := hv3.symm
 subst hv3
 obtain ⟨a, wt, num, seq, gv, over, why⟩ := x
 have y4 : V.cell? ⟨L.b, 4, none⟩ = some (.int .i64 (wt : Int)) := HCV.out.blk.cell 4
 have z4 := HCV.out.blk.frozen 4
 obtain ⟨X4, hX4⟩ : ∃ X, V.setCell ⟨L.b, 4, none⟩ (.int .i64 0) = X := ⟨_, rfl⟩
 have HC4 : Hid (Cc X4 B L l ks rs ⟨a, 0, num, seq, gv, over, why⟩ op) := zh (by rw [← hX4]; exact HCV.out.set (i := 4) rfl HCV.out.pos (zf _))
 have HF4 : Hid (Frm (fun k => k = L.b) V X4) := zh (by rw [← hX4]; exact (za (fun k => k = L.b) V).setCell (p := ⟨L.b, 4, none⟩) (fun _ => rfl) _)
 clear HOC
 go_upto_region 7 with fail
 try rw [hX4]
 clear hX4 y4 z4 t0
 obtain ⟨n0, D0, ho, _, _⟩ := HC4.out.om
 have HO := zh ho
 clear ho
 have HEV : Hid (bsE V ⟨A5, c5, d.reply⟩) := zh (HSV.out.less (zF _))
 have HCL : Hid (∀ X5, X5.ownsMap Tryz.prog 3 (plainElem Tryz.prog 4) L.mb 0 (.map [] : DU) → Frm (fun k => some L.mb = some k) X4 X5 → Cc X5 B L l ks rs ⟨a, 0, num, seq, gv, over, why⟩ [] ∧ Blk X5 p5 73 (tcel d A5 c5).toArray ∧ Blk X5 p7 67 (rcel rq A7 c7).toArray ∧ bsE X5 ⟨A5, c5, d.reply⟩ ∧ Frm (CS L rs.length) w X5) := zh fun X5 om5 F5 => by
  obtain ⟨n1, D1, h1, _⟩ := HC4.out.om
  have k1 := HBV.out.frm HF4.out (HBV.out.apart HCV.out.blk (by decide))
  have k2 := HBQ.out.frm HF4.out (HBQ.out.apart HCV.out.blk (by decide))
  refine ⟨HC4.out.clr om5 F5, k1.frm F5 (fun e => OM.not_cells h1 k1 (zE e)), k2.frm F5 (fun e => OM.not_cells h1 k2 (zE e)), bsE.frm (bsE.frm HEV.out HF4.out (fun k cs hb e => by subst e; exact hb.apart HCV.out.blk (by decide) rfl)) F5 (fun k cs hb e => OM.not_cells h1 hb (zE e)), ?_⟩
  exact ((Fresh.frm HFV.out).trans (Frm.mono HF4.out (fun k _ e => .inl e))).trans (Frm.mono F5 (fun k _ e => .inr (.inl (zE e).symm)))
 have q8 : X4.cell? ⟨L.b, 8, none⟩ = some (.map (some L.mb)) := HC4.out.blk.cell 8
 obtain ⟨X5, hclr, om5, g5⟩ := OM.clear HO.out (t := 55) (e := 4) Tryz.underlying55 0
 obtain ⟨k1, k2, k3, k4, k5⟩ := HCL.out X5 om5 (Frm.of_grown g5.grown)
 have HC5 := zh k1
 have HB5 := zh k2
 have HQ5 := zh k3
 have HE5 := zh k4
 have HF5 := zh k5
 clear k1 k2 k3 k4 k5 om5 g5 HO
 have t0 : X5.cell? ⟨p5, 0, none⟩ = some (.int .i64 0) := by rw [HB5.out.cell 0, ← hd0]; rfl
 have t3 : X5.cell? ⟨p7, 0, none⟩ = some (.int .i64 1) := by rw [HQ5.out.cell 0, ← HKD.out]; rfl
 have hpos := HC5.out.pos
 go_upto_region 14 with fail
 clear hclr q8 t0
 have t1 : X5.cell? ⟨p5, 1, none⟩ = some (.int .i64 1) := by rw [HB5.out.cell 1, ← hd1]; rfl
 have y5 : X5.cell? ⟨L.b, 5, none⟩ = some (.int .i64 (num : Int)) := HC5.out.blk.cell 5
 have z5 := HC5.out.blk.frozen 5
 obtain ⟨X6, hX6⟩ : ∃ X, X5.setCell ⟨L.b, 5, none⟩ (.int .i64 1) = X := ⟨_, rfl⟩
 have HC6 : Hid (Cc X6 B L l ks rs ⟨a, 0, 1, seq, gv, over, why⟩ []) := zh (by rw [← hX6]; exact HC5.out.set (i := 5) rfl hpos (zf _))
 have HF6 : Hid (Frm (CS L rs.length) w X6) := zh (by rw [← hX6]; exact HF5.out.trans (Cc.setF _ _ _))
 go_upto_region 16 with fail
 try rw [hX6]
 clear hX6 y5 z5 t1 t3
 have HNB : Hid (∀ k, k < w.heap.size → (Value.slice (L).RA (rs).length (L).rc).ownBlock = some k → CS L rs.length k) := zh fun k _ e => .inr (.inr e)
 have HFF : Hid (∀ Z, Frm (CS (L) (rs).length) X6.drew Z → Frm (CS L rs.length) w Z) := zh fun Z F => by
  refine Frm.trans' (Frm.trans HF6.out (Fresh.frm (za _ X6).drew)) F (fun k hk e => ?_)
  rcases e with e | e | e
  ·exact .inl e
  ·exact .inr (.inl e)
  ·exact HNB.out k hk e
 have s9 : X6.drew.cell? ⟨L.b, 9, none⟩ = some (.slice (L).RA rs.length (L).rc) := by have h9 := HC6.out.blk.cell 9; rw [show (rs).length = rs.length from rfl] at h9; exact h9
 have HCD := zh (HC6.out.fresh (za _ X6).drew)
 have hn0 : (0 : Int) ≤ ((rs.length : Nat) : Int) := by omega
 obtain ⟨bb, hbb⟩ : ∃ z, z = decide (rs.length = ks.length) := ⟨_, rfl⟩
 have HBB := zh hbb
 have hE : (((rs.length : Nat) : Int) == (ks.length : Int)) = bb := by rw [hbb]; by_cases hq : rs.length = ks.length <;> simp [hq] <;> omega
 clear hbb
 refine zj (S := (fun w' => w'.cell? ⟨L.b, 5, none⟩ = some (.int .i64 1) ∧ w'.cell? ⟨L.b, 9, none⟩ = some (.slice (L).RA rs.length (L).rc) ∧ w'.cell? ⟨L.b, 2, none⟩ = some (.slice L.KA ks.length L.kc))) (by kernel_rfl) (⟨HC6.out.blk.cell 5, s9, HC6.out.blk.cell 2⟩) (fun hHeld => ?_)
 iterate 18 ((first | refine ztn (v := ?_) (zo rfl) ?_ | refine ztz (v := ?_) (zo rfl) ?_); try simp only [Act.put, zT, zZ, zS])
 refine wpAnyH_done (by kernel_rfl) ?_ _
 cases bb with
 | true =>
  have hfu := zY HBB.out.symm
  have HEN := zh (end_c X6.drew B (L) l ks (rs) (⟨a, 0, 1, seq, gv, over, why⟩) [] HCD.out 0)
  have HFU := zh hfu
  clear hfu
  go_wp2_with fail
  refine HEN.out.mono ?_
  rintro e Z ⟨rfl, hcz, hfz⟩
  have HCZ := zh hcz
  have HFZ := zh hfz
  clear hcz hfz
  go_wp2_with fail
  go_ret
  exact told_fin HCZ.out rfl rfl (by unfold toldX; simp [HFU.out]) (by rfl) (HFF.out Z HFZ.out)
 | false =>
  have hfu := of_decide_eq_false HBB.out.symm
  have HFU := zh hfu
  clear hfu
  go_wp2_with fail
  go_ret
  exact told_fin HCD.out rfl rfl (by unfold toldX; simp [HFU.out]) (by rfl) (Frm.trans HF6.out (Fresh.frm (za _ X6).drew))
theorem told_do (w : World) (B : Nat) (L : CL) (l : List Int) (ks rs : List BsM) (x : CSt) (op : List Int) (h : Cc w B L l ks rs x op) (hx : CWf x) (hrs : rs.length ≤ 100) (hn : x.num = 1) (hk : x.num = 0 ∨ rs.length < ks.length) (h4 : ∀ m ∈ ks, m.b.length ≤ 4000) (hkn : ks.length ≤ 100)
 (A : Option Addr) (cap : Nat) (bs : List UInt8) (hA : Rd w w.heap.size A (bs.map bv)) (hl : bs.length ≤ 1000000) (hc : bs.length ≤ cap) (hm : cap ≤ maxLen) (d : Td) (hd : readT bs = (d, 0)) (hd0 : d.code = 0) 
 (rq : Rq) (hrq : reqC (ks.map lenB) rs.length x = rq) (hkd : rq.kind = 2) (hot : rq.kind ≠ 2 ∨ (d.client = rq.client ∧ d.seq = rq.seq)) :
 Calls Tryz.prog 26 #[.pointer (some ⟨L.b, 0, none⟩), .slice A bs.length cap] w fun e w' => ToldP w B L l ks rs.length (rs.map lenB ++ [d.reply]) (toldX x ks.length rs.length 2).1 e w' := by
 have hmf : ∀ (fn : Fn) (first cap : Array Value) (w : World), (Instr.makeFunc fn first cap).run Tryz.prog w = .ok (.func fn first cap) w := fun _ _ _ _ => rfl
 obtain ⟨i0, hi0, hz0, hz1, hz2⟩ := info_parts info_bs
 have HRD := zh (sRead_any w A cap bs hA hl hc hm)
 have HC := zh h
 have HX := zh hx
 have HRQ : Hid (∀ w', Fresh w w' → Calls Tryz.prog 21 #[.pointer (some ⟨L.b, 0, none⟩)] w' fun e w'' => RqPost w' rq e w'') := zh fun w' F => by rw [← hrq]; exact request_c w' B L l ks rs x op (h.fresh F) hk h4
 have HOT := zh hot
 have HDD := zh hd
 have HKD := zh hkd
 clear h hx hk h4 hA hrq hot hd hkd
 go_in
 go_wp2_with fail
 refine HRD.out.mono ?_
 rintro e w1 ⟨A5, c5, code, d', hrd, rfl, hs5, f1⟩
 rw [HDD.out] at hrd
 obtain ⟨rfl, rfl⟩ : d = d' ∧ 0 = code := ⟨congrArg Prod.fst hrd, congrArg Prod.snd hrd⟩
 have HF1 := zh f1
 obtain ⟨tz, htz⟩ : ∃ z, z = tcel d A5 c5 := ⟨_, rfl⟩
 have HTZ := zh htz
 rw [← htz]
 obtain ⟨U1, hU1⟩ : ∃ U, w1.alloc (.cells #[.int .i64 0, .int .i64 0, .int .i64 0, .slice none 0 0] 73) = U := ⟨_, rfl⟩
 have HB1 : Hid (Blk U1 w1.heap.size 73 #[.int .i64 0, .int .i64 0, .int .i64 0, .slice none 0 0]) := zh (by rw [← hU1]; exact Blk.new _ _ _)
 have HTJ : Hid ((Tryz.prog.info? 73).map (·.size) = some tz.toArray.size) := zh (by rw [htz]; kernel_rfl)
 have HTO : Hid (tz.toArray.all (·.oneCell') = true) := zh (by rw [htz]; kernel_rfl)
 have HTT : Hid (U1.there w1.heap.size 0 tz.toArray.size) := zh (by rw [htz]; exact HB1.out.there rfl)
 obtain ⟨V1, hV1⟩ : ∃ V, U1.setCells w1.heap.size 0 tz = V := ⟨_, rfl⟩
 have HFV1 : Hid (Fresh w1 V1) := zh (by rw [← hV1, ← hU1]; exact (jC _ _).trans' (jE w1.heap.size tz 0 _) (fun k hk e => by omega))
 have HBT : Hid (Blk V1 w1.heap.size 73 tz.toArray) := zh (by rw [← hV1]; exact jG HB1.out (by rw [htz]; rfl))
 have HS1 := zh (hs5.fresh HFV1.out)
 have HFW1 := zh (HF1.out.trans HFV1.out)
 clear f1 hs5 hrd htz
 go_upto_region 2 with (first | (refine zd rfl 73 (.tmp 5) (.tmp 12) rfl w1.heap.size 0 tz.toArray rfl rfl HTT.out HTJ.out HTO.out ?_) | (rw [hU1]; refine zd rfl 73 (.tmp 5) (.tmp 12) rfl w1.heap.size 0 tz.toArray rfl rfl HTT.out HTJ.out HTO.out ?_))
 try rw [hV1]
 clear hV1 hU1 HTT HTJ HTO HB1
 generalize w1.heap.size = p5 at HBT
 go_wp2_with fail
 refine (HRQ.out V1 HFW1.out).mono ?_
 rintro e w2 ⟨A7, c7, rfl, _, f2, _⟩
 have HF2 := zh f2
 obtain ⟨qz, hqz⟩ : ∃ z, z = rcel rq A7 c7 := ⟨_, rfl⟩
 have HQZ := zh hqz
 rw [← hqz]
 obtain ⟨U2, hU2⟩ : ∃ U, w2.alloc (.cells #[.int .i64 0, .int .i64 0, .int .i64 0, .int .i64 0, .slice none 0 0] 67) = U := ⟨_, rfl⟩
 have HB2 : Hid (Blk U2 w2.heap.size 67 #[.int .i64 0, .int .i64 0, .int .i64 0, .int .i64 0, .slice none 0 0]) := zh (by rw [← hU2]; exact Blk.new _ _ _)
 have HQJ : Hid ((Tryz.prog.info? 67).map (·.size) = some qz.toArray.size) := zh (by rw [hqz]; kernel_rfl)
 have HQO : Hid (qz.toArray.all (·.oneCell') = true) := zh (by rw [hqz]; kernel_rfl)
 have HQT : Hid (U2.there w2.heap.size 0 qz.toArray.size) := zh (by rw [hqz]; exact HB2.out.there rfl)
 obtain ⟨V, hV⟩ : ∃ V, U2.setCells w2.heap.size 0 qz = V := ⟨_, rfl⟩
 have HFV2 : Hid (Fresh w2 V) := zh (by rw [← hV, ← hU2]; exact (jC _ _).trans' (jE w2.heap.size qz 0 _) (fun k hk e => by omega))
 have HBQ : Hid (Blk V w2.heap.size 67 qz.toArray) := zh (by rw [← hV]; exact jG HB2.out (by rw [hqz]; rfl))
 have HF12 := zh (HF2.out.trans HFV2.out)
 have HBV := zh (HBT.out.frm HF12.out (fun f => f))
 have HSV := zh (HS1.out.fresh HF12.out)
 have HFV := zh (HFW1.out.trans HF12.out)
 have HCV := zh (HC.out.fresh HFV.out)
 clear f2 hqz
 go_upto_region 3 with (first | (refine zd rfl 67 (.tmp 7) (.tmp 15) rfl w2.heap.size 0 qz.toArray rfl rfl HQT.out HQJ.out HQO.out ?_) | (rw [hU2]; refine zd rfl 67 (.tmp 7) (.tmp 15) rfl w2.heap.size 0 qz.toArray rfl rfl HQT.out HQJ.out HQO.out ?_))
 try rw [hV]
 clear hV hU2 HQT HQJ HQO HB2
 generalize w2.heap.size = p7 at HBQ
 rw [HTZ.out] at HBV
 rw [HQZ.out] at HBQ
 have HOC := zh (other_c V p7 p5 rq A7 c7 d A5 c5 HBQ.out HBV.out HOT.out)
 have t0 : V.cell? ⟨p5, 0, none⟩ = some (.int .i64 0) := by rw [HBV.out.cell 0, ← hd0]; rfl
 go_wp2_with fail
 refine HOC.out.mono ?_
 rintro e V3 ⟨rfl, hv3⟩
 replace hv3 := hv3.symm
 subst hv3
 obtain ⟨a, wt, num, seq, gv, over, why⟩ := x
 obtain rfl : num = 1 := hn
 have y4 : V.cell? ⟨L.b, 4, none⟩ = some (.int .i64 (wt : Int)) := HCV.out.blk.cell 4
 have z4 := HCV.out.blk.frozen 4
 obtain ⟨X4, hX4⟩ : ∃ X, V.setCell ⟨L.b, 4, none⟩ (.int .i64 0) = X := ⟨_, rfl⟩
 have HC4 : Hid (Cc X4 B L l ks rs ⟨a, 0, 1, seq, gv, over, why⟩ op) := zh (by rw [← hX4]; exact HCV.out.set (i := 4) rfl HCV.out.pos (zf _))
 have HF4 : Hid (Frm (fun k => k = L.b) V X4) := zh (by rw [← hX4]; exact (za (fun k => k = L.b) V).setCell (p := ⟨L.b, 4, none⟩) (fun _ => rfl) _)
 clear HOC
 go_upto_region 7 with fail
 try rw [hX4]
 clear hX4 y4 z4 t0
 obtain ⟨n0, D0, ho, _, _⟩ := HC4.out.om
 have HO := zh ho
 clear ho
 have HEV : Hid (bsE V ⟨A5, c5, d.reply⟩) := zh (HSV.out.less (zF _))
 have HCL : Hid (∀ X5, X5.ownsMap Tryz.prog 3 (plainElem Tryz.prog 4) L.mb 0 (.map [] : DU) → Frm (fun k => some L.mb = some k) X4 X5 → Cc X5 B L l ks rs ⟨a, 0, 1, seq, gv, over, why⟩ [] ∧ Blk X5 p5 73 (tcel d A5 c5).toArray ∧ Blk X5 p7 67 (rcel rq A7 c7).toArray ∧ bsE X5 ⟨A5, c5, d.reply⟩ ∧ Frm (CS L rs.length) w X5) := zh fun X5 om5 F5 => by
  obtain ⟨n1, D1, h1, _⟩ := HC4.out.om
  have k1 := HBV.out.frm HF4.out (HBV.out.apart HCV.out.blk (by decide))
  have k2 := HBQ.out.frm HF4.out (HBQ.out.apart HCV.out.blk (by decide))
  refine ⟨HC4.out.clr om5 F5, k1.frm F5 (fun e => OM.not_cells h1 k1 (zE e)), k2.frm F5 (fun e => OM.not_cells h1 k2 (zE e)), bsE.frm (bsE.frm HEV.out HF4.out (fun k cs hb e => by subst e; exact hb.apart HCV.out.blk (by decide) rfl)) F5 (fun k cs hb e => OM.not_cells h1 hb (zE e)), ?_⟩
  exact ((Fresh.frm HFV.out).trans (Frm.mono HF4.out (fun k _ e => .inl e))).trans (Frm.mono F5 (fun k _ e => .inr (.inl (zE e).symm)))
 have q8 : X4.cell? ⟨L.b, 8, none⟩ = some (.map (some L.mb)) := HC4.out.blk.cell 8
 obtain ⟨X5, hclr, om5, g5⟩ := OM.clear HO.out (t := 55) (e := 4) Tryz.underlying55 0
 obtain ⟨k1, k2, k3, k4, k5⟩ := HCL.out X5 om5 (Frm.of_grown g5.grown)
 have HC5 := zh k1
 have HB5 := zh k2
 have HQ5 := zh k3
 have HE5 := zh k4
 have HF5 := zh k5
 clear k1 k2 k3 k4 k5 om5 g5 HO
 have t0 : X5.cell? ⟨p5, 0, none⟩ = some (.int .i64 0) := by rw [HB5.out.cell 0, ← hd0]; rfl
 have t3 : X5.cell? ⟨p7, 0, none⟩ = some (.int .i64 2) := by rw [HQ5.out.cell 0, ← HKD.out]; rfl
 have hpos := HC5.out.pos
 go_upto_region 14 with fail
 clear hclr q8 t0
 go_upto_region 8 with fail
 have HS8 : Hid (∀ w', Blk w' p5 73 (tcel d A5 c5).toArray → w'.cell? ⟨p5, 3, none⟩ = some (.slice A5 d.reply.length c5)) := zh fun w' hb => hb.cell 3
 have HCd := zh (HC5.out.fresh (za _ X5).drew)
 have HFT : Hid (Fresh X5.drew (X5.drew.alloc (.cells #[.slice A5 d.reply.length c5] 39))) := zh (jC _ _)
 have HCT := zh (HCd.out.fresh HFT.out)
 have HBd : Hid (Blk X5.drew p5 73 (tcel d A5 c5).toArray) := zh HB5.out
 have HBv := zh (HBd.out.frm HFT.out (fun f => f))
 have yd : X5.drew.cell? ⟨L.b, 9, none⟩ = some (.slice L.RA rs.length L.rc) := HCd.out.blk.cell 9
 have ye : (X5.drew.alloc (.cells #[.slice A5 d.reply.length c5] 39)).cell? ⟨L.b, 9, none⟩ = some (.slice L.RA rs.length L.rc) := HCT.out.blk.cell 9
 have ye2 : (X5.alloc (.cells #[.slice A5 d.reply.length c5] 39)).drew.cell? ⟨L.b, 9, none⟩ = some (.slice L.RA rs.length L.rc) := ye
 have RV : Hid (Rd (X5.drew.alloc (.cells #[.slice A5 d.reply.length c5] 39)) (X5.drew.heap.size + 1) (some ⟨X5.drew.heap.size, 0, none⟩) [.slice A5 d.reply.length c5]) := zh (jL X5.drew [.slice A5 d.reply.length c5] 39)
 have HET : Hid (bsE (X5.drew.alloc (.cells #[.slice A5 d.reply.length c5] 39)) ⟨A5, c5, d.reply⟩) := zh (HE5.out.fresh ((za _ X5).drew.trans HFT.out))
 have hBs : B ≤ (X5.drew.alloc (.cells #[.slice A5 d.reply.length c5] 39)).heap.size := by have := HCT.out.bge; have := HCT.out.blk.lt; omega
 have hd9 : (rs.length + 1) * 24 ≤ 140737488355328 := by omega
 go_cut [] from 35 to 45 (fun wx => ∃ A8 c8, Cc wx B ({ L with RA := A8, rc := c8 } : CL) l ks (rs ++ [(⟨A5, c5, d.reply⟩ : BsM)]) ⟨a, 0, 1, seq, gv, over, why⟩ [] ∧ Frm (CS L rs.length) w wx ∧ Blk wx p7 67 (rcel rq A7 c7).toArray ∧ (∀ k, k < w.heap.size → (Value.slice A8 (rs.length + 1) c8).ownBlock = some k → CS L rs.length k))
 case first =>
  refine zj (S := (fun w' => w'.cell? ⟨p5, 3, none⟩ = some (.slice A5 d.reply.length c5))) (by kernel_rfl) (HS8.out _ HBd.out) (fun hHeld => ?_)
  iterate 4 ((first | refine ztn (v := ?_) (zo rfl) ?_ | refine ztz (v := ?_) (zo rfl) ?_); try simp only [Act.put, zT, zZ, zS])
  (refine zt 5 (v := ?_) (zo rfl) ?_; try simp only [Act.put, zT, zZ, zS])
  iterate 1 (refine ztn (v := ?_) (zo rfl) ?_; try simp only [Act.put, zT, zZ, zS])
  refine zr2 4 7 (zo rfl) (zo rfl) (fun K hK => ?_) (fun K hK => ?_)
  ·go_simp
   refine hK.out _ _ (HS8.out _ HBd.out) (fun hHeld => ?_)
   clear hK K
   try simp only [Act.put, zT, zZ, zS]
   refine zr1 7 (zo rfl) (fun K hK => ?_)
   go_simp
   refine hK.out _ _ (HS8.out _ HBv.out) (fun hHeld => ?_)
   clear hK K
   try simp only [Act.put, zT, zZ, zS]
   refine zr1 8 (zo rfl) (fun K hK => ?_)
   refine jF (by rfl) (.tmp 39) (.tmp 42) _ (by rfl) B 39 i0 _ 1 24 Tryz.underlying22 hi0 hz0 hz1 hz2 rfl (by omega) (.slice L.RA rs.length L.rc) rs.length (rs.map BsM.v) (by simp [Act.eval, Act.put]) HCT.out.rsl (X5.drew.heap.size + 1) (some ⟨X5.drew.heap.size, 0, none⟩) 1 1 [.slice A5 d.reply.length c5] (by simp [Act.eval, Act.put]) rfl RV.out (fun u hu => by simp at hu; subst hu; rfl) (by unfold maxLen; omega) hd9 hBs ?_
   intro v1 wa hs1 hf1 ha1
   obtain ⟨A8, c8, rfl, _⟩ := hs1.shape
   have HP := zh (HCT.out.push ⟨A5, c5, d.reply⟩ HET.out hs1 hf1 ha1)
   have hba := HCT.out.blk.frm hf1 (fun e => HCT.out.rsl.apart HCT.out.blk (by decide) e)
   have b9 : wa.cell? ⟨L.b, 9, none⟩ = some (.slice L.RA rs.length L.rc) := hba.cell 9
   have z9 : wa.frozen? ⟨L.b, 9, none⟩ = false := hba.frozen 9
   have HNW : Hid (∀ k, k < w.heap.size → (Value.slice A8 (rs.length + 1) c8).ownBlock = some k → CS L rs.length k) := zh (fun k hk e => by
   have hz : w.heap.size ≤ (X5.drew.alloc (.cells #[.slice A5 d.reply.length c5] 39)).heap.size := zp HF5.out.size ((za (fun _ => False) X5).drew.trans HFT.out).size
   rcases ha1 with e1 | e1
   ·rw [e1] at e; exact .inr (.inr e)
   ·rw [e1] at e; injection e with e; have e2 : (X5.drew.alloc (.cells #[.slice A5 d.reply.length c5] 39)).heap.size = k := e; exfalso; omega)
   have HBA := zh (HBv.out.frm hf1 (fun e => HCT.out.rsl.apart HBv.out (by decide) e))
   obtain ⟨X6, hX6⟩ : ∃ X, wa.setCell ⟨L.b, 9, none⟩ (.slice A8 (rs.length + 1) c8) = X := ⟨_, rfl⟩
   rw [hX6] at HP
   have HB6 : Hid (Blk X6 p5 73 (tcel d A5 c5).toArray) := zh (by rw [← hX6]; exact HBA.out.far (p := ⟨L.b, 9, none⟩) (HBA.out.apart hba (by decide)) _)
   have HQ6 : Hid (Blk X6 p7 67 (rcel rq A7 c7).toArray) := zh (by have k0 : Blk (X5.drew.alloc (.cells #[.slice A5 d.reply.length c5] 39)) p7 67 (rcel rq A7 c7).toArray := (show Blk X5.drew p7 67 (rcel rq A7 c7).toArray from HQ5.out).frm HFT.out (fun f => f); have k1 := k0.frm hf1 (fun e => HCT.out.rsl.apart k0 (by decide) e); rw [← hX6]; exact k1.far (p := ⟨L.b, 9, none⟩) (k1.apart hba (by decide)) _)
   clear hs1 hf1 ha1 hba
   refine hK.out _ _ (HS8.out _ HBA.out) (fun hHeld => ?_)
   clear hK K
   try simp only [Act.put, zT, zZ, zS]
   iterate 2 (refine ztn (v := ?_) (zo rfl) ?_; try simp only [Act.put, zT, zZ, zS])
   refine zr1 11 (zo rfl) (fun K hK => ?_)
   go_simp
   try rw [hX6]
   refine hK.out _ _ (HS8.out _ HB6.out) (fun hHeld => ?_)
   clear hK K
   try simp only [Act.put, zT, zZ, zS]
   refine wpAnyH_done (by kernel_rfl) ?_ _
   try rw [hX6]
   go_wp2_with fail
   go_meet
   exact ⟨A8, c8, HP.out.1, (HF5.out.trans (Fresh.frm ((za _ X5).drew.trans HFT.out))).trans HP.out.2, HQ6.out, HNW.out⟩
  ·go_simp
   refine hK.out _ _ (HS8.out _ HBv.out) (fun hHeld => ?_)
   clear hK K
   try simp only [Act.put, zT, zZ, zS]
   refine zr1 4 (zo rfl) (fun K hK => ?_)
   go_simp
   refine hK.out _ _ (HS8.out _ HBv.out) (fun hHeld => ?_)
   clear hK K
   try simp only [Act.put, zT, zZ, zS]
   refine zr1 8 (zo rfl) (fun K hK => ?_)
   refine jF (by rfl) (.tmp 39) (.tmp 42) _ (by rfl) B 39 i0 _ 1 24 Tryz.underlying22 hi0 hz0 hz1 hz2 rfl (by omega) (.slice L.RA rs.length L.rc) rs.length (rs.map BsM.v) (by simp [Act.eval, Act.put]) HCT.out.rsl (X5.drew.heap.size + 1) (some ⟨X5.drew.heap.size, 0, none⟩) 1 1 [.slice A5 d.reply.length c5] (by simp [Act.eval, Act.put]) rfl RV.out (fun u hu => by simp at hu; subst hu; rfl) (by unfold maxLen; omega) hd9 hBs ?_
   intro v1 wa hs1 hf1 ha1
   obtain ⟨A8, c8, rfl, _⟩ := hs1.shape
   have HP := zh (HCT.out.push ⟨A5, c5, d.reply⟩ HET.out hs1 hf1 ha1)
   have hba := HCT.out.blk.frm hf1 (fun e => HCT.out.rsl.apart HCT.out.blk (by decide) e)
   have b9 : wa.cell? ⟨L.b, 9, none⟩ = some (.slice L.RA rs.length L.rc) := hba.cell 9
   have z9 : wa.frozen? ⟨L.b, 9, none⟩ = false := hba.frozen 9
   have HNW : Hid (∀ k, k < w.heap.size → (Value.slice A8 (rs.length + 1) c8).ownBlock = some k → CS L rs.length k) := zh (fun k hk e => by
   have hz : w.heap.size ≤ (X5.drew.alloc (.cells #[.slice A5 d.reply.length c5] 39)).heap.size := zp HF5.out.size ((za (fun _ => False) X5).drew.trans HFT.out).size
   rcases ha1 with e1 | e1
   ·rw [e1] at e; exact .inr (.inr e)
   ·rw [e1] at e; injection e with e; have e2 : (X5.drew.alloc (.cells #[.slice A5 d.reply.length c5] 39)).heap.size = k := e; exfalso; omega)
   have HBA := zh (HBv.out.frm hf1 (fun e => HCT.out.rsl.apart HBv.out (by decide) e))
   obtain ⟨X6, hX6⟩ : ∃ X, wa.setCell ⟨L.b, 9, none⟩ (.slice A8 (rs.length + 1) c8) = X := ⟨_, rfl⟩
   rw [hX6] at HP
   have HB6 : Hid (Blk X6 p5 73 (tcel d A5 c5).toArray) := zh (by rw [← hX6]; exact HBA.out.far (p := ⟨L.b, 9, none⟩) (HBA.out.apart hba (by decide)) _)
   have HQ6 : Hid (Blk X6 p7 67 (rcel rq A7 c7).toArray) := zh (by have k0 : Blk (X5.drew.alloc (.cells #[.slice A5 d.reply.length c5] 39)) p7 67 (rcel rq A7 c7).toArray := (show Blk X5.drew p7 67 (rcel rq A7 c7).toArray from HQ5.out).frm HFT.out (fun f => f); have k1 := k0.frm hf1 (fun e => HCT.out.rsl.apart k0 (by decide) e); rw [← hX6]; exact k1.far (p := ⟨L.b, 9, none⟩) (k1.apart hba (by decide)) _)
   clear hs1 hf1 ha1 hba
   refine hK.out _ _ (HS8.out _ HBA.out) (fun hHeld => ?_)
   clear hK K
   try simp only [Act.put, zT, zZ, zS]
   iterate 2 (refine ztn (v := ?_) (zo rfl) ?_; try simp only [Act.put, zT, zZ, zS])
   refine zr1 11 (zo rfl) (fun K hK => ?_)
   go_simp
   try rw [hX6]
   refine hK.out _ _ (HS8.out _ HB6.out) (fun hHeld => ?_)
   clear hK K
   try simp only [Act.put, zT, zZ, zS]
   refine wpAnyH_done (by kernel_rfl) ?_ _
   try rw [hX6]
   go_wp2_with fail
   go_meet
   exact ⟨A8, c8, HP.out.1, (HF5.out.trans (Fresh.frm ((za _ X5).drew.trans HFT.out))).trans HP.out.2, HQ6.out, HNW.out⟩
 case rest =>
  obtain ⟨A8, c8, hc6, hf6, hq6, hnw⟩ := hcut
  obtain ⟨X6, hX6⟩ : ∃ X, X = wc := ⟨_, rfl⟩
  rw [← hX6] at hc6 hf6 hq6
  rw [← hX6]
  clear hX6
  have HC6 := zh hc6
  have HF6 := zh hf6
  have HQ6 := zh hq6
  have HNW := zh hnw
  clear hc6 hf6 hq6 hnw
  have s0 : X6.cell? ⟨p7, 0, none⟩ = some (.int .i64 2) := by rw [HQ6.out.cell 0, ← HKD.out]; rfl
  have y6 : X6.cell? ⟨L.b, 6, none⟩ = some (.int .i64 (seq : Int)) := HC6.out.blk.cell 6
  have z6 := HC6.out.blk.frozen 6
  have hsq : IntKind.i64.wrap ((seq : Int) + 1) = (seq : Int) + 1 := zm _ (by have h1 := HX.out.seq; dsimp only at h1; omega)
  obtain ⟨X7, hX7⟩ : ∃ X, X6.setCell ⟨L.b, 6, none⟩ (.int .i64 ((seq : Int) + 1)) = X := ⟨_, rfl⟩
  have HC7 : Hid (Cc X7 B ({ L with RA := A8, rc := c8 } : CL) l ks (rs ++ [(⟨A5, c5, d.reply⟩ : BsM)]) ⟨a, 0, 1, seq + 1, gv, over, why⟩ []) := zh (by rw [← hX7]; exact HC6.out.set (i := 6) (by rfl) hpos (zf _))
  have HF7 : Hid (Frm (CS L rs.length) w X7) := zh (by rw [← hX7]; exact HF6.out.trans (Cc.setF _ _ _))
  go_upto_region 16 with fail
  try rw [hX7]
  clear hX7 y6 z6 s0 t3
  have HNB : Hid (∀ k, k < w.heap.size → (Value.slice (({ L with RA := A8, rc := c8 } : CL)).RA ((rs ++ [(⟨A5, c5, d.reply⟩ : BsM)])).length (({ L with RA := A8, rc := c8 } : CL)).rc).ownBlock = some k → CS L rs.length k) := zh (by simpa using HNW.out)
  have HFF : Hid (∀ Z, Frm (CS (({ L with RA := A8, rc := c8 } : CL)) ((rs ++ [(⟨A5, c5, d.reply⟩ : BsM)])).length) X7.drew Z → Frm (CS L rs.length) w Z) := zh fun Z F => by
   refine Frm.trans' (Frm.trans HF7.out (Fresh.frm (za _ X7).drew)) F (fun k hk e => ?_)
   rcases e with e | e | e
   ·exact .inl e
   ·exact .inr (.inl e)
   ·exact HNB.out k hk e
  have s9 : X7.drew.cell? ⟨L.b, 9, none⟩ = some (.slice (({ L with RA := A8, rc := c8 } : CL)).RA (rs.length + 1) (({ L with RA := A8, rc := c8 } : CL)).rc) := by have h9 := HC7.out.blk.cell 9; rw [show ((rs ++ [(⟨A5, c5, d.reply⟩ : BsM)])).length = (rs.length + 1) from (by simp)] at h9; exact h9
  have HCD := zh (HC7.out.fresh (za _ X7).drew)
  have hn0 : (0 : Int) ≤ (((rs.length + 1) : Nat) : Int) := by omega
  obtain ⟨bb, hbb⟩ : ∃ z, z = decide ((rs.length + 1) = ks.length) := ⟨_, rfl⟩
  have HBB := zh hbb
  have hE : ((((rs.length + 1) : Nat) : Int) == (ks.length : Int)) = bb := by rw [hbb]; by_cases hq : (rs.length + 1) = ks.length <;> simp [hq] <;> omega
  clear hbb
  refine zj (S := (fun w' => w'.cell? ⟨L.b, 5, none⟩ = some (.int .i64 1) ∧ w'.cell? ⟨L.b, 9, none⟩ = some (.slice (({ L with RA := A8, rc := c8 } : CL)).RA (rs.length + 1) (({ L with RA := A8, rc := c8 } : CL)).rc) ∧ w'.cell? ⟨L.b, 2, none⟩ = some (.slice L.KA ks.length L.kc))) (by kernel_rfl) (⟨HC7.out.blk.cell 5, s9, HC7.out.blk.cell 2⟩) (fun hHeld => ?_)
  iterate 18 ((first | refine ztn (v := ?_) (zo rfl) ?_ | refine ztz (v := ?_) (zo rfl) ?_); try simp only [Act.put, zT, zZ, zS])
  refine wpAnyH_done (by kernel_rfl) ?_ _
  cases bb with
  | true =>
   have hfu := zY HBB.out.symm
   have HEN := zh (end_c X7.drew B (({ L with RA := A8, rc := c8 } : CL)) l ks ((rs ++ [(⟨A5, c5, d.reply⟩ : BsM)])) (⟨a, 0, 1, seq + 1, gv, over, why⟩) [] HCD.out 0)
   have HFU := zh hfu
   clear hfu
   go_wp2_with fail
   refine HEN.out.mono ?_
   rintro e Z ⟨rfl, hcz, hfz⟩
   have HCZ := zh hcz
   have HFZ := zh hfz
   clear hcz hfz
   go_wp2_with fail
   go_ret
   exact told_fin HCZ.out rfl rfl (by unfold toldX; simp [HFU.out]) (by simp [lenB]) (HFF.out Z HFZ.out)
  | false =>
   have hfu := of_decide_eq_false HBB.out.symm
   have HFU := zh hfu
   clear hfu
   go_wp2_with fail
   go_ret
   exact told_fin HCD.out rfl rfl (by unfold toldX; simp [HFU.out]) (by simp [lenB]) (Frm.trans HF7.out (Fresh.frm (za _ X7).drew))
theorem told_look (w : World) (B : Nat) (L : CL) (l : List Int) (ks rs : List BsM) (x : CSt) (op : List Int) (h : Cc w B L l ks rs x op) (hx : CWf x) (hrs : rs.length ≤ 100) (hn : x.num = 1) (hk : x.num = 0 ∨ rs.length < ks.length) (h4 : ∀ m ∈ ks, m.b.length ≤ 4000) (hkn : ks.length ≤ 100)
 (A : Option Addr) (cap : Nat) (bs : List UInt8) (hA : Rd w w.heap.size A (bs.map bv)) (hl : bs.length ≤ 1000000) (hc : bs.length ≤ cap) (hm : cap ≤ maxLen) (d : Td) (hd : readT bs = (d, 0)) (hd0 : d.code = 0) 
 (rq : Rq) (hrq : reqC (ks.map lenB) rs.length x = rq) (hkd : rq.kind = 4) (hot : rq.kind ≠ 2 ∨ (d.client = rq.client ∧ d.seq = rq.seq)) :
 Calls Tryz.prog 26 #[.pointer (some ⟨L.b, 0, none⟩), .slice A bs.length cap] w fun e w' => ToldP w B L l ks rs.length (rs.map lenB ++ [d.reply]) (toldX x ks.length rs.length 4).1 e w' := by
 have hmf : ∀ (fn : Fn) (first cap : Array Value) (w : World), (Instr.makeFunc fn first cap).run Tryz.prog w = .ok (.func fn first cap) w := fun _ _ _ _ => rfl
 obtain ⟨i0, hi0, hz0, hz1, hz2⟩ := info_parts info_bs
 have HRD := zh (sRead_any w A cap bs hA hl hc hm)
 have HC := zh h
 have HX := zh hx
 have HRQ : Hid (∀ w', Fresh w w' → Calls Tryz.prog 21 #[.pointer (some ⟨L.b, 0, none⟩)] w' fun e w'' => RqPost w' rq e w'') := zh fun w' F => by rw [← hrq]; exact request_c w' B L l ks rs x op (h.fresh F) hk h4
 have HOT := zh hot
 have HDD := zh hd
 have HKD := zh hkd
 clear h hx hk h4 hA hrq hot hd hkd
 go_in
 go_wp2_with fail
 refine HRD.out.mono ?_
 rintro e w1 ⟨A5, c5, code, d', hrd, rfl, hs5, f1⟩
 rw [HDD.out] at hrd
 obtain ⟨rfl, rfl⟩ : d = d' ∧ 0 = code := ⟨congrArg Prod.fst hrd, congrArg Prod.snd hrd⟩
 have HF1 := zh f1
 obtain ⟨tz, htz⟩ : ∃ z, z = tcel d A5 c5 := ⟨_, rfl⟩
 have HTZ := zh htz
 rw [← htz]
 obtain ⟨U1, hU1⟩ : ∃ U, w1.alloc (.cells #[.int .i64 0, .int .i64 0, .int .i64 0, .slice none 0 0] 73) = U := ⟨_, rfl⟩
 have HB1 : Hid (Blk U1 w1.heap.size 73 #[.int .i64 0, .int .i64 0, .int .i64 0, .slice none 0 0]) := zh (by rw [← hU1]; exact Blk.new _ _ _)
 have HTJ : Hid ((Tryz.prog.info? 73).map (·.size) = some tz.toArray.size) := zh (by rw [htz]; kernel_rfl)
 have HTO : Hid (tz.toArray.all (·.oneCell') = true) := zh (by rw [htz]; kernel_rfl)
 have HTT : Hid (U1.there w1.heap.size 0 tz.toArray.size) := zh (by rw [htz]; exact HB1.out.there rfl)
 obtain ⟨V1, hV1⟩ : ∃ V, U1.setCells w1.heap.size 0 tz = V := ⟨_, rfl⟩
 have HFV1 : Hid (Fresh w1 V1) := zh (by rw [← hV1, ← hU1]; exact (jC _ _).trans' (jE w1.heap.size tz 0 _) (fun k hk e => by omega))
 have HBT : Hid (Blk V1 w1.heap.size 73 tz.toArray) := zh (by rw [← hV1]; exact jG HB1.out (by rw [htz]; rfl))
 have HS1 := zh (hs5.fresh HFV1.out)
 have HFW1 := zh (HF1.out.trans HFV1.out)
 clear f1 hs5 hrd htz
 go_upto_region 2 with (first | (refine zd rfl 73 (.tmp 5) (.tmp 12) rfl w1.heap.size 0 tz.toArray rfl rfl HTT.out HTJ.out HTO.out ?_) | (rw [hU1]; refine zd rfl 73 (.tmp 5) (.tmp 12) rfl w1.heap.size 0 tz.toArray rfl rfl HTT.out HTJ.out HTO.out ?_))
 try rw [hV1]
 clear hV1 hU1 HTT HTJ HTO HB1
 generalize w1.heap.size = p5 at HBT
 go_wp2_with fail
 refine (HRQ.out V1 HFW1.out).mono ?_
 rintro e w2 ⟨A7, c7, rfl, _, f2, _⟩
 have HF2 := zh f2
 obtain ⟨qz, hqz⟩ : ∃ z, z = rcel rq A7 c7 := ⟨_, rfl⟩
 have HQZ := zh hqz
 rw [← hqz]
 obtain ⟨U2, hU2⟩ : ∃ U, w2.alloc (.cells #[.int .i64 0, .int .i64 0, .int .i64 0, .int .i64 0, .slice none 0 0] 67) = U := ⟨_, rfl⟩
 have HB2 : Hid (Blk U2 w2.heap.size 67 #[.int .i64 0, .int .i64 0, .int .i64 0, .int .i64 0, .slice none 0 0]) := zh (by rw [← hU2]; exact Blk.new _ _ _)
 have HQJ : Hid ((Tryz.prog.info? 67).map (·.size) = some qz.toArray.size) := zh (by rw [hqz]; kernel_rfl)
 have HQO : Hid (qz.toArray.all (·.oneCell') = true) := zh (by rw [hqz]; kernel_rfl)
 have HQT : Hid (U2.there w2.heap.size 0 qz.toArray.size) := zh (by rw [hqz]; exact HB2.out.there rfl)
 obtain ⟨V, hV⟩ : ∃ V, U2.setCells w2.heap.size 0 qz = V := ⟨_, rfl⟩
 have HFV2 : Hid (Fresh w2 V) := zh (by rw [← hV, ← hU2]; exact (jC _ _).trans' (jE w2.heap.size qz 0 _) (fun k hk e => by omega))
 have HBQ : Hid (Blk V w2.heap.size 67 qz.toArray) := zh (by rw [← hV]; exact jG HB2.out (by rw [hqz]; rfl))
 have HF12 := zh (HF2.out.trans HFV2.out)
 have HBV := zh (HBT.out.frm HF12.out (fun f => f))
 have HSV := zh (HS1.out.fresh HF12.out)
 have HFV := zh (HFW1.out.trans HF12.out)
 have HCV := zh (HC.out.fresh HFV.out)
 clear f2 hqz
 go_upto_region 3 with (first | (refine zd rfl 67 (.tmp 7) (.tmp 15) rfl w2.heap.size 0 qz.toArray rfl rfl HQT.out HQJ.out HQO.out ?_) | (rw [hU2]; refine zd rfl 67 (.tmp 7) (.tmp 15) rfl w2.heap.size 0 qz.toArray rfl rfl HQT.out HQJ.out HQO.out ?_))
 try rw [hV]
 clear hV hU2 HQT HQJ HQO HB2
 generalize w2.heap.size = p7 at HBQ
 rw [HTZ.out] at HBV
 rw [HQZ.out] at HBQ
 have HOC := zh (other_c V p7 p5 rq A7 c7 d A5 c5 HBQ.out HBV.out HOT.out)
 have t0 : V.cell? ⟨p5, 0, none⟩ = some (.int .i64 0) := by rw [HBV.out.cell 0, ← hd0]; rfl
 go_wp2_with fail
 refine HOC.out.mono ?_
 rintro e V3 ⟨rfl, hv3⟩
 replace hv3 := hv3.symm
 subst hv3
 obtain ⟨a, wt, num, seq, gv, over, why⟩ := x
 obtain rfl : num = 1 := hn
 have y4 : V.cell? ⟨L.b, 4, none⟩ = some (.int .i64 (wt : Int)) := HCV.out.blk.cell 4
 have z4 := HCV.out.blk.frozen 4
 obtain ⟨X4, hX4⟩ : ∃ X, V.setCell ⟨L.b, 4, none⟩ (.int .i64 0) = X := ⟨_, rfl⟩
 have HC4 : Hid (Cc X4 B L l ks rs ⟨a, 0, 1, seq, gv, over, why⟩ op) := zh (by rw [← hX4]; exact HCV.out.set (i := 4) rfl HCV.out.pos (zf _))
 have HF4 : Hid (Frm (fun k => k = L.b) V X4) := zh (by rw [← hX4]; exact (za (fun k => k = L.b) V).setCell (p := ⟨L.b, 4, none⟩) (fun _ => rfl) _)
 clear HOC
 go_upto_region 7 with fail
 try rw [hX4]
 clear hX4 y4 z4 t0
 obtain ⟨n0, D0, ho, _, _⟩ := HC4.out.om
 have HO := zh ho
 clear ho
 have HEV : Hid (bsE V ⟨A5, c5, d.reply⟩) := zh (HSV.out.less (zF _))
 have HCL : Hid (∀ X5, X5.ownsMap Tryz.prog 3 (plainElem Tryz.prog 4) L.mb 0 (.map [] : DU) → Frm (fun k => some L.mb = some k) X4 X5 → Cc X5 B L l ks rs ⟨a, 0, 1, seq, gv, over, why⟩ [] ∧ Blk X5 p5 73 (tcel d A5 c5).toArray ∧ Blk X5 p7 67 (rcel rq A7 c7).toArray ∧ bsE X5 ⟨A5, c5, d.reply⟩ ∧ Frm (CS L rs.length) w X5) := zh fun X5 om5 F5 => by
  obtain ⟨n1, D1, h1, _⟩ := HC4.out.om
  have k1 := HBV.out.frm HF4.out (HBV.out.apart HCV.out.blk (by decide))
  have k2 := HBQ.out.frm HF4.out (HBQ.out.apart HCV.out.blk (by decide))
  refine ⟨HC4.out.clr om5 F5, k1.frm F5 (fun e => OM.not_cells h1 k1 (zE e)), k2.frm F5 (fun e => OM.not_cells h1 k2 (zE e)), bsE.frm (bsE.frm HEV.out HF4.out (fun k cs hb e => by subst e; exact hb.apart HCV.out.blk (by decide) rfl)) F5 (fun k cs hb e => OM.not_cells h1 hb (zE e)), ?_⟩
  exact ((Fresh.frm HFV.out).trans (Frm.mono HF4.out (fun k _ e => .inl e))).trans (Frm.mono F5 (fun k _ e => .inr (.inl (zE e).symm)))
 have q8 : X4.cell? ⟨L.b, 8, none⟩ = some (.map (some L.mb)) := HC4.out.blk.cell 8
 obtain ⟨X5, hclr, om5, g5⟩ := OM.clear HO.out (t := 55) (e := 4) Tryz.underlying55 0
 obtain ⟨k1, k2, k3, k4, k5⟩ := HCL.out X5 om5 (Frm.of_grown g5.grown)
 have HC5 := zh k1
 have HB5 := zh k2
 have HQ5 := zh k3
 have HE5 := zh k4
 have HF5 := zh k5
 clear k1 k2 k3 k4 k5 om5 g5 HO
 have t0 : X5.cell? ⟨p5, 0, none⟩ = some (.int .i64 0) := by rw [HB5.out.cell 0, ← hd0]; rfl
 have t3 : X5.cell? ⟨p7, 0, none⟩ = some (.int .i64 4) := by rw [HQ5.out.cell 0, ← HKD.out]; rfl
 have hpos := HC5.out.pos
 go_upto_region 14 with fail
 clear hclr q8 t0
 go_upto_region 8 with fail
 have HS8 : Hid (∀ w', Blk w' p5 73 (tcel d A5 c5).toArray → w'.cell? ⟨p5, 3, none⟩ = some (.slice A5 d.reply.length c5)) := zh fun w' hb => hb.cell 3
 have HCd := zh (HC5.out.fresh (za _ X5).drew)
 have HFT : Hid (Fresh X5.drew (X5.drew.alloc (.cells #[.slice A5 d.reply.length c5] 39))) := zh (jC _ _)
 have HCT := zh (HCd.out.fresh HFT.out)
 have HBd : Hid (Blk X5.drew p5 73 (tcel d A5 c5).toArray) := zh HB5.out
 have HBv := zh (HBd.out.frm HFT.out (fun f => f))
 have yd : X5.drew.cell? ⟨L.b, 9, none⟩ = some (.slice L.RA rs.length L.rc) := HCd.out.blk.cell 9
 have ye : (X5.drew.alloc (.cells #[.slice A5 d.reply.length c5] 39)).cell? ⟨L.b, 9, none⟩ = some (.slice L.RA rs.length L.rc) := HCT.out.blk.cell 9
 have ye2 : (X5.alloc (.cells #[.slice A5 d.reply.length c5] 39)).drew.cell? ⟨L.b, 9, none⟩ = some (.slice L.RA rs.length L.rc) := ye
 have RV : Hid (Rd (X5.drew.alloc (.cells #[.slice A5 d.reply.length c5] 39)) (X5.drew.heap.size + 1) (some ⟨X5.drew.heap.size, 0, none⟩) [.slice A5 d.reply.length c5]) := zh (jL X5.drew [.slice A5 d.reply.length c5] 39)
 have HET : Hid (bsE (X5.drew.alloc (.cells #[.slice A5 d.reply.length c5] 39)) ⟨A5, c5, d.reply⟩) := zh (HE5.out.fresh ((za _ X5).drew.trans HFT.out))
 have hBs : B ≤ (X5.drew.alloc (.cells #[.slice A5 d.reply.length c5] 39)).heap.size := by have := HCT.out.bge; have := HCT.out.blk.lt; omega
 have hd9 : (rs.length + 1) * 24 ≤ 140737488355328 := by omega
 go_cut [] from 35 to 45 (fun wx => ∃ A8 c8, Cc wx B ({ L with RA := A8, rc := c8 } : CL) l ks (rs ++ [(⟨A5, c5, d.reply⟩ : BsM)]) ⟨a, 0, 1, seq, gv, over, why⟩ [] ∧ Frm (CS L rs.length) w wx ∧ Blk wx p7 67 (rcel rq A7 c7).toArray ∧ (∀ k, k < w.heap.size → (Value.slice A8 (rs.length + 1) c8).ownBlock = some k → CS L rs.length k))
 case first =>
  refine zj (S := (fun w' => w'.cell? ⟨p5, 3, none⟩ = some (.slice A5 d.reply.length c5))) (by kernel_rfl) (HS8.out _ HBd.out) (fun hHeld => ?_)
  iterate 4 ((first | refine ztn (v := ?_) (zo rfl) ?_ | refine ztz (v := ?_) (zo rfl) ?_); try simp only [Act.put, zT, zZ, zS])
  (refine zt 5 (v := ?_) (zo rfl) ?_; try simp only [Act.put, zT, zZ, zS])
  iterate 1 (refine ztn (v := ?_) (zo rfl) ?_; try simp only [Act.put, zT, zZ, zS])
  refine zr2 4 7 (zo rfl) (zo rfl) (fun K hK => ?_) (fun K hK => ?_)
  ·go_simp
   refine hK.out _ _ (HS8.out _ HBd.out) (fun hHeld => ?_)
   clear hK K
   try simp only [Act.put, zT, zZ, zS]
   refine zr1 7 (zo rfl) (fun K hK => ?_)
   go_simp
   refine hK.out _ _ (HS8.out _ HBv.out) (fun hHeld => ?_)
   clear hK K
   try simp only [Act.put, zT, zZ, zS]
   refine zr1 8 (zo rfl) (fun K hK => ?_)
   refine jF (by rfl) (.tmp 39) (.tmp 42) _ (by rfl) B 39 i0 _ 1 24 Tryz.underlying22 hi0 hz0 hz1 hz2 rfl (by omega) (.slice L.RA rs.length L.rc) rs.length (rs.map BsM.v) (by simp [Act.eval, Act.put]) HCT.out.rsl (X5.drew.heap.size + 1) (some ⟨X5.drew.heap.size, 0, none⟩) 1 1 [.slice A5 d.reply.length c5] (by simp [Act.eval, Act.put]) rfl RV.out (fun u hu => by simp at hu; subst hu; rfl) (by unfold maxLen; omega) hd9 hBs ?_
   intro v1 wa hs1 hf1 ha1
   obtain ⟨A8, c8, rfl, _⟩ := hs1.shape
   have HP := zh (HCT.out.push ⟨A5, c5, d.reply⟩ HET.out hs1 hf1 ha1)
   have hba := HCT.out.blk.frm hf1 (fun e => HCT.out.rsl.apart HCT.out.blk (by decide) e)
   have b9 : wa.cell? ⟨L.b, 9, none⟩ = some (.slice L.RA rs.length L.rc) := hba.cell 9
   have z9 : wa.frozen? ⟨L.b, 9, none⟩ = false := hba.frozen 9
   have HNW : Hid (∀ k, k < w.heap.size → (Value.slice A8 (rs.length + 1) c8).ownBlock = some k → CS L rs.length k) := zh (fun k hk e => by
   have hz : w.heap.size ≤ (X5.drew.alloc (.cells #[.slice A5 d.reply.length c5] 39)).heap.size := zp HF5.out.size ((za (fun _ => False) X5).drew.trans HFT.out).size
   rcases ha1 with e1 | e1
   ·rw [e1] at e; exact .inr (.inr e)
   ·rw [e1] at e; injection e with e; have e2 : (X5.drew.alloc (.cells #[.slice A5 d.reply.length c5] 39)).heap.size = k := e; exfalso; omega)
   have HBA := zh (HBv.out.frm hf1 (fun e => HCT.out.rsl.apart HBv.out (by decide) e))
   obtain ⟨X6, hX6⟩ : ∃ X, wa.setCell ⟨L.b, 9, none⟩ (.slice A8 (rs.length + 1) c8) = X := ⟨_, rfl⟩
   rw [hX6] at HP
   have HB6 : Hid (Blk X6 p5 73 (tcel d A5 c5).toArray) := zh (by rw [← hX6]; exact HBA.out.far (p := ⟨L.b, 9, none⟩) (HBA.out.apart hba (by decide)) _)
   have HQ6 : Hid (Blk X6 p7 67 (rcel rq A7 c7).toArray) := zh (by have k0 : Blk (X5.drew.alloc (.cells #[.slice A5 d.reply.length c5] 39)) p7 67 (rcel rq A7 c7).toArray := (show Blk X5.drew p7 67 (rcel rq A7 c7).toArray from HQ5.out).frm HFT.out (fun f => f); have k1 := k0.frm hf1 (fun e => HCT.out.rsl.apart k0 (by decide) e); rw [← hX6]; exact k1.far (p := ⟨L.b, 9, none⟩) (k1.apart hba (by decide)) _)
   clear hs1 hf1 ha1 hba
   refine hK.out _ _ (HS8.out _ HBA.out) (fun hHeld => ?_)
   clear hK K
   try simp only [Act.put, zT, zZ, zS]
   iterate 2 (refine ztn (v := ?_) (zo rfl) ?_; try simp only [Act.put, zT, zZ, zS])
   refine zr1 11 (zo rfl) (fun K hK => ?_)
   go_simp
   try rw [hX6]
   refine hK.out _ _ (HS8.out _ HB6.out) (fun hHeld => ?_)
   clear hK K
   try simp only [Act.put, zT, zZ, zS]
   refine wpAnyH_done (by kernel_rfl) ?_ _
   try rw [hX6]
   go_wp2_with fail
   go_meet
   exact ⟨A8, c8, HP.out.1, (HF5.out.trans (Fresh.frm ((za _ X5).drew.trans HFT.out))).trans HP.out.2, HQ6.out, HNW.out⟩
  ·go_simp
   refine hK.out _ _ (HS8.out _ HBv.out) (fun hHeld => ?_)
   clear hK K
   try simp only [Act.put, zT, zZ, zS]
   refine zr1 4 (zo rfl) (fun K hK => ?_)
   go_simp
   refine hK.out _ _ (HS8.out _ HBv.out) (fun hHeld => ?_)
   clear hK K
   try simp only [Act.put, zT, zZ, zS]
   refine zr1 8 (zo rfl) (fun K hK => ?_)
   refine jF (by rfl) (.tmp 39) (.tmp 42) _ (by rfl) B 39 i0 _ 1 24 Tryz.underlying22 hi0 hz0 hz1 hz2 rfl (by omega) (.slice L.RA rs.length L.rc) rs.length (rs.map BsM.v) (by simp [Act.eval, Act.put]) HCT.out.rsl (X5.drew.heap.size + 1) (some ⟨X5.drew.heap.size, 0, none⟩) 1 1 [.slice A5 d.reply.length c5] (by simp [Act.eval, Act.put]) rfl RV.out (fun u hu => by simp at hu; subst hu; rfl) (by unfold maxLen; omega) hd9 hBs ?_
   intro v1 wa hs1 hf1 ha1
   obtain ⟨A8, c8, rfl, _⟩ := hs1.shape
   have HP := zh (HCT.out.push ⟨A5, c5, d.reply⟩ HET.out hs1 hf1 ha1)
   have hba := HCT.out.blk.frm hf1 (fun e => HCT.out.rsl.apart HCT.out.blk (by decide) e)
   have b9 : wa.cell? ⟨L.b, 9, none⟩ = some (.slice L.RA rs.length L.rc) := hba.cell 9
   have z9 : wa.frozen? ⟨L.b, 9, none⟩ = false := hba.frozen 9
   have HNW : Hid (∀ k, k < w.heap.size → (Value.slice A8 (rs.length + 1) c8).ownBlock = some k → CS L rs.length k) := zh (fun k hk e => by
   have hz : w.heap.size ≤ (X5.drew.alloc (.cells #[.slice A5 d.reply.length c5] 39)).heap.size := zp HF5.out.size ((za (fun _ => False) X5).drew.trans HFT.out).size
   rcases ha1 with e1 | e1
   ·rw [e1] at e; exact .inr (.inr e)
   ·rw [e1] at e; injection e with e; have e2 : (X5.drew.alloc (.cells #[.slice A5 d.reply.length c5] 39)).heap.size = k := e; exfalso; omega)
   have HBA := zh (HBv.out.frm hf1 (fun e => HCT.out.rsl.apart HBv.out (by decide) e))
   obtain ⟨X6, hX6⟩ : ∃ X, wa.setCell ⟨L.b, 9, none⟩ (.slice A8 (rs.length + 1) c8) = X := ⟨_, rfl⟩
   rw [hX6] at HP
   have HB6 : Hid (Blk X6 p5 73 (tcel d A5 c5).toArray) := zh (by rw [← hX6]; exact HBA.out.far (p := ⟨L.b, 9, none⟩) (HBA.out.apart hba (by decide)) _)
   have HQ6 : Hid (Blk X6 p7 67 (rcel rq A7 c7).toArray) := zh (by have k0 : Blk (X5.drew.alloc (.cells #[.slice A5 d.reply.length c5] 39)) p7 67 (rcel rq A7 c7).toArray := (show Blk X5.drew p7 67 (rcel rq A7 c7).toArray from HQ5.out).frm HFT.out (fun f => f); have k1 := k0.frm hf1 (fun e => HCT.out.rsl.apart k0 (by decide) e); rw [← hX6]; exact k1.far (p := ⟨L.b, 9, none⟩) (k1.apart hba (by decide)) _)
   clear hs1 hf1 ha1 hba
   refine hK.out _ _ (HS8.out _ HBA.out) (fun hHeld => ?_)
   clear hK K
   try simp only [Act.put, zT, zZ, zS]
   iterate 2 (refine ztn (v := ?_) (zo rfl) ?_; try simp only [Act.put, zT, zZ, zS])
   refine zr1 11 (zo rfl) (fun K hK => ?_)
   go_simp
   try rw [hX6]
   refine hK.out _ _ (HS8.out _ HB6.out) (fun hHeld => ?_)
   clear hK K
   try simp only [Act.put, zT, zZ, zS]
   refine wpAnyH_done (by kernel_rfl) ?_ _
   try rw [hX6]
   go_wp2_with fail
   go_meet
   exact ⟨A8, c8, HP.out.1, (HF5.out.trans (Fresh.frm ((za _ X5).drew.trans HFT.out))).trans HP.out.2, HQ6.out, HNW.out⟩
 case rest =>
  obtain ⟨A8, c8, hc6, hf6, hq6, hnw⟩ := hcut
  obtain ⟨X6, hX6⟩ : ∃ X, X = wc := ⟨_, rfl⟩
  rw [← hX6] at hc6 hf6 hq6
  rw [← hX6]
  clear hX6
  have HC6 := zh hc6
  have HF6 := zh hf6
  have HQ6 := zh hq6
  have HNW := zh hnw
  clear hc6 hf6 hq6 hnw
  have s0 : X6.cell? ⟨p7, 0, none⟩ = some (.int .i64 4) := by rw [HQ6.out.cell 0, ← HKD.out]; rfl
  go_upto_region 16 with fail
  clear s0 t3
  have HNB : Hid (∀ k, k < w.heap.size → (Value.slice (({ L with RA := A8, rc := c8 } : CL)).RA ((rs ++ [(⟨A5, c5, d.reply⟩ : BsM)])).length (({ L with RA := A8, rc := c8 } : CL)).rc).ownBlock = some k → CS L rs.length k) := zh (by simpa using HNW.out)
  have HFF : Hid (∀ Z, Frm (CS (({ L with RA := A8, rc := c8 } : CL)) ((rs ++ [(⟨A5, c5, d.reply⟩ : BsM)])).length) X6.drew Z → Frm (CS L rs.length) w Z) := zh fun Z F => by
   refine Frm.trans' (Frm.trans HF6.out (Fresh.frm (za _ X6).drew)) F (fun k hk e => ?_)
   rcases e with e | e | e
   ·exact .inl e
   ·exact .inr (.inl e)
   ·exact HNB.out k hk e
  have s9 : X6.drew.cell? ⟨L.b, 9, none⟩ = some (.slice (({ L with RA := A8, rc := c8 } : CL)).RA (rs.length + 1) (({ L with RA := A8, rc := c8 } : CL)).rc) := by have h9 := HC6.out.blk.cell 9; rw [show ((rs ++ [(⟨A5, c5, d.reply⟩ : BsM)])).length = (rs.length + 1) from (by simp)] at h9; exact h9
  have HCD := zh (HC6.out.fresh (za _ X6).drew)
  have hn0 : (0 : Int) ≤ (((rs.length + 1) : Nat) : Int) := by omega
  obtain ⟨bb, hbb⟩ : ∃ z, z = decide ((rs.length + 1) = ks.length) := ⟨_, rfl⟩
  have HBB := zh hbb
  have hE : ((((rs.length + 1) : Nat) : Int) == (ks.length : Int)) = bb := by rw [hbb]; by_cases hq : (rs.length + 1) = ks.length <;> simp [hq] <;> omega
  clear hbb
  refine zj (S := (fun w' => w'.cell? ⟨L.b, 5, none⟩ = some (.int .i64 1) ∧ w'.cell? ⟨L.b, 9, none⟩ = some (.slice (({ L with RA := A8, rc := c8 } : CL)).RA (rs.length + 1) (({ L with RA := A8, rc := c8 } : CL)).rc) ∧ w'.cell? ⟨L.b, 2, none⟩ = some (.slice L.KA ks.length L.kc))) (by kernel_rfl) (⟨HC6.out.blk.cell 5, s9, HC6.out.blk.cell 2⟩) (fun hHeld => ?_)
  iterate 18 ((first | refine ztn (v := ?_) (zo rfl) ?_ | refine ztz (v := ?_) (zo rfl) ?_); try simp only [Act.put, zT, zZ, zS])
  refine wpAnyH_done (by kernel_rfl) ?_ _
  cases bb with
  | true =>
   have hfu := zY HBB.out.symm
   have HEN := zh (end_c X6.drew B (({ L with RA := A8, rc := c8 } : CL)) l ks ((rs ++ [(⟨A5, c5, d.reply⟩ : BsM)])) (⟨a, 0, 1, seq, gv, over, why⟩) [] HCD.out 0)
   have HFU := zh hfu
   clear hfu
   go_wp2_with fail
   refine HEN.out.mono ?_
   rintro e Z ⟨rfl, hcz, hfz⟩
   have HCZ := zh hcz
   have HFZ := zh hfz
   clear hcz hfz
   go_wp2_with fail
   go_ret
   exact told_fin HCZ.out rfl rfl (by unfold toldX; simp [HFU.out]) (by simp [lenB]) (HFF.out Z HFZ.out)
  | false =>
   have hfu := of_decide_eq_false HBB.out.symm
   have HFU := zh hfu
   clear hfu
   go_wp2_with fail
   go_ret
   exact told_fin HCD.out rfl rfl (by unfold toldX; simp [HFU.out]) (by simp [lenB]) (Frm.trans HF6.out (Fresh.frm (za _ X6).drew))
end
end Go.Proofs.YtnmokpbomeamfaaGreat

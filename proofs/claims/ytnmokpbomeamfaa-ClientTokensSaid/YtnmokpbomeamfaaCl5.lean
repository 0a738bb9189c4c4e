/- Want, Tick, Over of a client that has begun nothing. -/
import Derived.Test.YtnmokpbomeamfaaCl4
import Derived.BigQuiet
import Derived.Deep.QuietTactic
namespace Go.Proofs.Ytnmokpbomeamfaa
open Go.RowKit

section
variable {w w' : World} {B b mb id : Nat} {A : Option Addr} {nc : Nat} {l : List Int} {a wt gv : Nat}
theorem Cl.frm {S : Nat → Prop} (h : Cl w B b mb id A nc l a wt gv) (F : Frm S w w') (h1 : ¬ S b) (h2 : ¬ S mb) (h3 : ∀ k, (Value.slice A l.length nc).ownBlock = some k → ¬ S k) : Cl w' B b mb id A nc l a wt gv := by
  obtain ⟨n, D, ho, hn⟩ := h.om
  exact ⟨h.blk.frm F h1, ⟨n, D, OM.frm ho F h2, hn⟩, h.sl.frm F h3, h.bge, h.mge, h.pos⟩
theorem Cl.fresh (h : Cl w B b mb id A nc l a wt gv) (F : Fresh w w') : Cl w' B b mb id A nc l a wt gv := h.frm F (fun f => f) (fun f => f) (fun _ _ f => f)
theorem Cl.ne (h : Cl w B b mb id A nc l a wt gv) : mb ≠ b := by
  obtain ⟨n, D, ho, _⟩ := h.om
  exact OM.not_cells ho h.blk
theorem Cl.own_b (h : Cl w B b mb id A nc l a wt gv) : (Value.slice A l.length nc).ownBlock ≠ some b := h.sl.apart h.blk (by decide)
theorem Cl.own_m (h : Cl w B b mb id A nc l a wt gv) : (Value.slice A l.length nc).ownBlock ≠ some mb := by
  obtain ⟨n, D, ho, _⟩ := h.om
  exact OM.not_sl ho h.sl
/-- a store into the client's own cells -/
theorem Cl.set (h : Cl w B b mb id A nc l a wt gv) {i : Nat} {u : Value} {a' wt' gv' : Nat} (hc : (clCells id A nc l.length a wt gv mb).setIfInBounds i u = clCells id A nc l.length a' wt' gv' mb) (hp : a' < l.length) (hg : gv ≤ gv') :
    Cl (w.setCell ⟨b, i, none⟩ u) B b mb id A nc l a' wt' gv' := by
  obtain ⟨n, D, ho, hn⟩ := h.om
  have F : Frm (fun k => k = b) w (w.setCell ⟨b, i, none⟩ u) := Frm.setCell (Frm.refl (fun k => k = b) w) (p := ⟨b, i, none⟩) (fun _ => rfl) u
  refine ⟨by have := h.blk.set i u; rw [hc] at this; exact this, ⟨n, D, OM.frm ho F h.ne, by omega⟩, h.sl.frm F (fun k hk e => ?_), h.bge, h.mge, hp⟩
  subst e
  exact h.own_b hk
end
def ReqPost (w : World) (id : Nat) (e : Ending) (w' : World) : Prop := e = .returned (.agg #[.int .i64 1, .int .i64 0, .int .i64 0, .int .i64 (id : Int), .slice none 0 0]) ∧ Fresh w w'
theorem request_any (w : World) (B b mb id : Nat) (A : Option Addr) (nc : Nat) (l : List Int) (a wt gv : Nat) (h : Cl w B b mb id A nc l a wt gv) :
    Calls Try.prog 17 #[.pointer (some ⟨b, 0, none⟩)] w fun e w' => ReqPost w id e w' := by
  have c0 : w.cell? ⟨b, 0, none⟩ = some (.int .i64 (id : Int)) := h.blk.cell 0
  have c5 : w.cell? ⟨b, 5, none⟩ = some (.int .i64 0) := h.blk.cell 5
  have hlt := h.blk.lt
  have HF : Hid (∀ o, Fresh w (w.alloc o)) := Lib.hid fun o => (Frm.refl _ w).alloc o
  clear h
  go_enter Try.func17, Try.ntmps17
  go_wp2_with fail
  exact bodyPost_ret (v := .agg #[.int .i64 1, .int .i64 0, .int .i64 0, .int .i64 (id : Int), .slice none 0 0]) (by simp [results, Try.results17, go_sem]) rfl ⟨rfl, HF.out _⟩
def at_ (l : List Int) (k : Nat) : Int := l.getD k 0
theorem at_get {l : List Int} {k : Nat} (h : k < l.length) : at_ l k = l[k] := by simp [at_, List.getD, h]
def WantPost (w : World) (B b mb id : Nat) (A : Option Addr) (nc : Nat) (l : List Int) (a wt gv : Nat) (e : Ending) (w' : World) : Prop :=
  ∃ (v : Value) (bs : List UInt8), e = .returned (.tuple #[.int .i64 (at_ l a), .int .i64 ((id : Int) * 1048576 + (gv : Int)), v, .bool true]) ∧ Sl w' w.heap.size 5 1 v bs.length (bs.map bv) ∧ 0 < bs.length ∧ Cl w' B b mb id A nc l a wt (gv + 1) ∧ Frm (fun k => k = b ∨ k = mb) w w'
set_option maxRecDepth 100000 in
set_option maxHeartbeats 4000000 in
theorem want_any (w : World) (B b mb id : Nat) (A : Option Addr) (nc : Nat) (l : List Int) (a wt gv : Nat) (h : Cl w B b mb id A nc l a wt gv) (hid : id ≤ 1000) (hg : gv ≤ 1000) (hl : l.length ≤ 15) :
    Calls Try.prog 7 #[.pointer (some ⟨b, 0, none⟩)] w fun e w' => WantPost w B b mb id A nc l a wt gv e w' := by
  have HC := Lib.hid h
  have hpos := h.pos
  have c0 : ∀ n, (w.drewN n).cell? ⟨b, 0, none⟩ = some (.int .i64 (id : Int)) := fun _ => h.blk.cell 0
  have c7 : ∀ n, (w.drewN n).cell? ⟨b, 7, none⟩ = some (.int .i64 (gv : Int)) := fun _ => h.blk.cell 7
  have p7 : w.cell? ⟨b, 7, none⟩ = some (.int .i64 (gv : Int)) := h.blk.cell 7
  have p10 : w.cell? ⟨b, 10, none⟩ = some (.bool false) := h.blk.cell 10
  have K := Maps.int_keyed Try.underlying3
  have hw1 : IntKind.i64.wrap ((id : Int) * 1048576) = (id : Int) * 1048576 := IntWalk.i64_in _ (by omega)
  have hw2 : IntKind.i64.wrap ((id : Int) * 1048576 + (gv : Int)) = (id : Int) * 1048576 + (gv : Int) := IntWalk.i64_in _ (by omega)
  have hg1 : ¬ (1048576 : Int) ≤ (gv : Int) := by omega
  have hg2 : (0 : Int) ≤ (gv : Int) := by omega
  have hg3 : (gv : Int) ≤ 1000 := by omega
  have HKEY : Hid (keyOf Try.prog 3 (.int .i64 ((id : Int) * 1048576 + (gv : Int))) = some (.int .i64 ((id : Int) * 1048576 + (gv : Int)))) := Lib.hid (Maps.keyOf_int_mk Try.underlying3 (by
    have : -9223372036854775808 ≤ (id : Int) * 1048576 + (gv : Int) ∧ (id : Int) * 1048576 + (gv : Int) ≤ 9223372036854775807 := by omega
    simpa [Lit.wf, IntKind.min, IntKind.max, IntKind.signed, IntKind.bits] using this))
  clear h
  go_enter Try.func7, Try.ntmps7
  go_wp2_with fail
  go_quiet (fail)
  rename_i nq
  obtain ⟨w1, hw1'⟩ : ∃ w1, w.drewN nq = w1 := ⟨_, rfl⟩
  rw [hw1']
  have HC1 : Hid (Cl w1 B b mb id A nc l a wt gv) := Lib.hid (by rw [← hw1']; exact HC.out.fresh ((Frm.refl _ w).drewN nq))
  have HF1 : Hid (Fresh w w1) := Lib.hid (by rw [← hw1']; exact (Frm.refl _ w).drewN nq)
  clear hw1' hw1 hw2 c0 c7 p7 p10
  have p7 : w1.cell? ⟨b, 7, none⟩ = some (.int .i64 (gv : Int)) := HC1.out.blk.cell 7
  have z7 := HC1.out.blk.frozen 7
  have hset : (clCells id A nc l.length a wt gv mb).setIfInBounds 7 (.int .i64 ((gv : Int) + 1)) = clCells id A nc l.length a wt (gv + 1) mb := rfl
  obtain ⟨w2, hw2⟩ : ∃ w2, w2 = w1.setCell ⟨b, 7, none⟩ (.int .i64 ((gv : Int) + 1)) := ⟨_, rfl⟩
  have HC2 : Hid (Cl w2 B b mb id A nc l a wt (gv + 1)) := Lib.hid (by rw [hw2]; exact HC1.out.set hset hpos (by omega))
  have HF2 : Hid (Frm (fun k => k = b ∨ k = mb) w w2) := Lib.hid (by rw [hw2]; exact (Fresh.frm HF1.out).setCell (p := ⟨b, 7, none⟩) (fun _ => .inl rfl) _)
  have q8 : w2.cell? ⟨b, 8, none⟩ = some (.map (some mb)) := HC2.out.blk.cell 8
  rw [hw2] at q8
  obtain ⟨n, D, ho, hn⟩ := HC2.out.om
  have HO := Lib.hid ho
  have HN : Hid (∃ m, ∃ D' : DU, w2.ownsMap Try.prog 3 (plainElem Try.prog 4) mb m D' ∧ m ≤ gv) := Lib.hid (by
    obtain ⟨n0, D0, h0, hn0⟩ := HC1.out.om
    refine ⟨n0, D0, ?_, hn0⟩
    rw [hw2]
    exact OM.frm h0 (Frm.setCell (Frm.refl (fun k => k = b) w1) (p := ⟨b, 7, none⟩) (fun _ => rfl) _) HC1.out.ne)
  clear ho HO
  obtain ⟨m, D', ho, hm⟩ := HN.out
  rw [hw2] at ho
  have HO := Lib.hid ho
  have hmax : m < maxLen := by unfold maxLen; omega
  clear ho
  go_wp2_with (at_mapUpdate; refine wpList_mapUpdate_own _ rfl _ _ _ 43 rfl 3 4 K Try.underlying43 _ mb m D' rfl HO.out hmax _ _ _ rfl rfl HKEY.out (.lit (.bool true)) [] (plainElem_bool Try.underlying4 true) ?_; rw [← hw2]; intro w3 om3 g3)
  have F3 : Frm (fun k => some mb = some k) w2 w3 := Frm.of_grown g3
  have HC3 : Hid (Cl w3 B b mb id A nc l a wt (gv + 1)) := Lib.hid ⟨HC2.out.blk.frm F3 (fun e => HC2.out.ne (Option.some.inj e)), ⟨m + 1, _, om3, by omega⟩, HC2.out.sl.frm F3 (fun k hk e => HC2.out.own_m (by rw [e]; exact hk)), HC2.out.bge, HC2.out.mge, hpos⟩
  have HF3 : Hid (Frm (fun k => k = b ∨ k = mb) w w3) := Lib.hid (HF2.out.trans' F3 (fun k _ e => .inr (Option.some.inj e).symm))
  have HRQ := Lib.hid (request_any w3 B b mb id A nc l a wt (gv + 1) HC3.out)
  clear om3 g3 F3 q8 hw2 p7 z7 hset
  go_wp2_with fail
  refine HRQ.out.mono ?_
  rintro e w4 ⟨rfl, f4⟩
  have HC4 := Lib.hid (HC3.out.fresh f4)
  have HF4 := Lib.hid (HF3.out.trans (Fresh.frm f4))
  clear f4
  go_wp2_with fail
  refine (encode_begin w4 id hid).mono ?_
  rintro e w5 ⟨v5, bs, rfl, hbs, hs5, f5⟩
  have HC5 := Lib.hid (HC4.out.fresh f5)
  have HF5 := Lib.hid (HF4.out.trans (Fresh.frm f5))
  have HS5 := Lib.hid (hs5.less HF4.out.size)
  have HBS : Hid (0 < bs.length) := Lib.hid (by
    rw [hbs, codes, List.flatMap_cons, List.append_assoc, List.length_append, FieldM.num_length]
    omega)
  obtain ⟨A5, c5, rfl, _⟩ := hs5.shape
  clear f5 hbs hs5
  have r1 : ∀ n, (w5.drewN n).cell? ⟨b, 1, none⟩ = some (.slice A l.length nc) := fun _ => HC5.out.blk.cell 1
  have r3 : ∀ n, (w5.drewN n).cell? ⟨b, 3, none⟩ = some (.int .i64 (a : Int)) := fun _ => HC5.out.blk.cell 3
  obtain ⟨bA, oA, rfl, _, hcA⟩ := HC5.out.sl.rd.at_ (k := a) (by simpa using hpos)
  rw [List.getElem_map, ← at_get hpos] at hcA
  have rA : ∀ n, (w5.drewN n).cell? ⟨bA, oA + a, none⟩ = some (.int .i64 (at_ l a)) := fun _ => hcA
  have ha0 : (0 : Int) ≤ (a : Int) := by omega
  have ha1 : (a : Int) < (l.length : Int) := by omega
  clear hcA
  go_wp2_with fail
  go_quiet (fail)
  go_wp2_with fail
  exact bodyPost_ret (v := .tuple #[.int .i64 (at_ l a), .int .i64 ((id : Int) * 1048576 + (gv : Int)), .slice A5 bs.length c5, .bool true]) (by simp [results, Try.results7, go_sem]) rfl ⟨_, bs, rfl, HS5.out.drewN _, HBS.out, HC5.out.fresh ((Frm.refl _ w5).drewN _), HF5.out.drewN _⟩
end Go.Proofs.Ytnmokpbomeamfaa

/- Proved here, for the statement TopFairCardSaid: laws that its walk leans on. It holds with no condition. (Put together and shortened by a program out of many texts: To4, Slots, To5.) -/
import Derived.Test.YtbeaoddjomdlcaaGreatDoorZ09
import Derived.Lib.SlKeysI
import Derived.Laws.CopyOwn
import Derived.Lib.Overlaps
import Derived.Lib.AppendZerosOnto
import Derived.Deep.DrawnRows
set_option linter.unusedVariables false
set_option linter.unusedSimpArgs false
set_option maxRecDepth 100000
set_option maxHeartbeats 64000000
namespace Go.Proofs.YtbeaoddjomdlcaaGreatDoor
section
open Go.RowKit
open Go.Maps (Keyed IsMap Tidy)
abbrev DV := DataW Value
def anyE : Value → Option (DV × List MemPlace) := fun v => some (.held v, [])
def wf64 (k : Int) : Prop := -9223372036854775808 ≤ k ∧ k ≤ 9223372036854775807
theorem wf_of {k : Int} (h : wf64 k) : (Lit.int .i64 k).wf = true := by
  unfold wf64 at h
  simp [Lit.wf, IntKind.min, IntKind.max, IntKind.signed, IntKind.bits]
  omega
theorem keyedI : Keyed Tryz.prog 3 := Maps.int_keyed Tryz.underlying3
theorem keyI {k : Int} (h : wf64 k) : keyOf Tryz.prog 3 (.int .i64 k) = some (.int .i64 k) := Maps.keyOf_int_mk Tryz.underlying3 (wf_of h)
def MapV (w : World) (b : Nat) (m : Int → Option Value) : Prop :=
  ∃ D : DV, w.ownsMap Tryz.prog 3 anyE b (Maps.size D) D ∧ ∀ k, Maps.has D (.int .i64 k) = (m k).isSome ∧ ∀ v, m k = some v → ∀ z, D.atKey (.int .i64 k) z = .held v
def upd (m : Int → Option Value) (k : Int) (v : Option Value) : Int → Option Value := fun j => if j = k then v else m j
theorem upd_same (m : Int → Option Value) (k : Int) (v : Option Value) : upd m k v k = v := if_pos rfl
theorem upd_other (m : Int → Option Value) {k j : Int} (v : Option Value) (h : j ≠ k) : upd m k v j = m j := if_neg h
theorem litI_ne {j k : Int} (h : j ≠ k) : (Lit.int .i64 j) ≠ Lit.int .i64 k := fun e => h (by injection e)
section
variable {w w' : World} {b : Nat} {m : Int → Option Value}
theorem MapV.frm {S : Nat → Prop} (h : MapV w b m) (F : Frm S w w') (hn : ¬ S b) : MapV w' b m := by
  obtain ⟨D, h1, h2⟩ := h
  exact ⟨D, OM.frm h1 F hn, h2⟩
theorem MapV.fresh (h : MapV w b m) (F : Fresh w w') : MapV w' b m := h.frm F (fun f => f)
theorem MapV.lt (h : MapV w b m) : b < w.heap.size := by obtain ⟨D, h1, _⟩ := h; exact h1.lt
theorem MapV.not_cells (h : MapV w b m) {g : Nat} {t : TypeId} {cs : Array Value} (hg : Blk w g t cs) : b ≠ g := by obtain ⟨D, h1, _⟩ := h; exact OM.not_cells h1 hg
theorem MapV.isMap (h : MapV w b m) : ∃ es c, w.heap[b]? = some (.map es c) := by obtain ⟨D, ⟨es, c, h1, _⟩, _⟩ := h; exact ⟨es, c, h1⟩
theorem MapV.made (w : World) : MapV (w.alloc (.map #[] 0)) w.heap.size (fun _ => none) := by
  refine ⟨.map [], World.ownsMap_made _ _ _ _, fun k => ⟨rfl, fun v h => by cases h⟩⟩
theorem shrink {n : Nat} {D : DV} (h : w.ownsMap Tryz.prog 3 anyE b n D) : w.ownsMap Tryz.prog 3 anyE b (Maps.size D) D := by
  obtain ⟨es, c, h1, h2, h3, rfl⟩ := h
  exact ⟨es, c, h1, h2, by simp [Maps.size, length_sorted], rfl⟩
theorem MapV.ask (h : MapV w b m) {t e : TypeId} (ht : Tryz.prog.underlying t = some (.map 3 e)) {z : Value} (hz : ∀ w, (zeroValue e).run Tryz.prog w = .ok z w) {k : Int} (hk : wf64 k) :
    (Instr.lookup t (.map (some b)) (.int .i64 k) true).run Tryz.prog w = .ok (.tuple #[(m k).getD z, .bool (m k).isSome]) w := by
  obtain ⟨D, h1, h2⟩ := h
  obtain ⟨v, ps, h3, h4⟩ := h1.look_ok keyedI ht (hz w) (zd := .held z) (zp := []) rfl (keyI hk)
  rw [h3, (h2 k).1]
  have e : v = (m k).getD z := by
    unfold anyE at h4
    injection h4 with h4
    injection h4 with h4 _
    cases hm : m k with
    | none =>
      have := (h2 k).1
      rw [hm] at this
      rw [Maps.atKey_of_not_has this] at h4
      injection h4
    | some u =>
      rw [(h2 k).2 u hm] at h4
      injection h4
  rw [e]
theorem MapV.at' (h : MapV w b m) {t e : TypeId} (ht : Tryz.prog.underlying t = some (.map 3 e)) {z : Value} (hz : ∀ w, (zeroValue e).run Tryz.prog w = .ok z w) {k : Int} (hk : wf64 k) :
    (Instr.lookup t (.map (some b)) (.int .i64 k) false).run Tryz.prog w = .ok ((m k).getD z) w := by
  obtain ⟨D, h1, h2⟩ := h
  obtain ⟨v, ps, h3, h4⟩ := h1.lookup keyedI ht (hz w) (zd := .held z) (zp := []) rfl (keyI hk)
  rw [h3]
  have e : v = (m k).getD z := by
    unfold anyE at h4
    injection h4 with h4
    injection h4 with h4 _
    cases hm : m k with
    | none =>
      have := (h2 k).1
      rw [hm] at this
      rw [Maps.atKey_of_not_has this] at h4
      injection h4
    | some u =>
      rw [(h2 k).2 u hm] at h4
      injection h4
  rw [e]
theorem size_bd {D : DV} (ht : Tidy D) {M : Nat} (hk : ∀ p ∈ (intKeys D), 0 ≤ p ∧ p ≤ (M : Int)) (hn : (intKeys D).Nodup) : Maps.size D ≤ M + 1 := by
  obtain ⟨es, rfl, _⟩ := ht
  have e : Maps.size (DataW.map es) = (intKeys (DataW.map es)).length := by simp [Maps.size, intKeys]
  rw [e]
  have h1 : ((intKeys (DataW.map es)).map Int.toNat).Nodup := by
    refine List.pairwise_map.2 (List.Pairwise.imp_of_mem ?_ hn)
    intro a b ha hb hne he
    exact hne (by have := hk a ha; have := hk b hb; omega)
  have h2 : ((intKeys (DataW.map es)).map Int.toNat) ⊆ List.range (M + 1) := fun x hx => by
    obtain ⟨p, hp, rfl⟩ := List.mem_map.1 hx
    have := hk p hp
    rw [List.mem_range]; omega
  have h3 := List.Nodup.length_le_of_subset h1 h2
  simpa using h3
theorem MapV.keys (h : MapV w b m) : ∃ D : DV, w.ownsMap Tryz.prog 3 anyE b (Maps.size D) D ∧ (intKeys D).Nodup ∧ (∀ k, k ∈ intKeys D ↔ (m k).isSome = true) ∧ Maps.size D = (intKeys D).length ∧ (∀ k, Maps.has D (.int .i64 k) = (m k).isSome ∧ ∀ v, m k = some v → ∀ z, D.atKey (.int .i64 k) z = .held v) := by
  obtain ⟨D, h1, h2⟩ := h
  obtain ⟨es, hD, hpw, _⟩ := h1.entries keyedI
  obtain ⟨es', hD', hko⟩ := h1.keysOf
  obtain rfl : es = es' := by rw [hD] at hD'; simpa using hD'
  subst hD
  have hk : ∀ p ∈ es, ∃ x, p.1 = .int .i64 x := fun p hp => by
    obtain ⟨v, hv⟩ := hko p hp
    obtain ⟨x, _, hx, _⟩ := Maps.keyOf_i64 Tryz.underlying3 hv
    exact ⟨x, hx⟩
  refine ⟨_, h1, ?_, fun k => ?_, by simp [Maps.size, intKeys], h2⟩
  · show (es.map fun p => Go.intOf p.1).Nodup
    refine List.pairwise_map.2 (hpw.imp_of_mem fun {p q} hp' hq' hne e => hne ?_)
    obtain ⟨a, ha⟩ := hk p hp'
    obtain ⟨b, hb⟩ := hk q hq'
    rw [ha, hb] at e ⊢
    exact congrArg _ e
  · rw [← (h2 k).1, Maps.has_eq, List.any_eq_true]
    show k ∈ (es.map fun p => Go.intOf p.1) ↔ _
    rw [List.mem_map]
    constructor
    · rintro ⟨p, hp', rfl⟩
      obtain ⟨a, ha⟩ := hk p hp'
      exact ⟨p, hp', by rw [ha]; simp [Lit.sameKey, Go.intOf]⟩
    · rintro ⟨p, hp', hs⟩
      obtain ⟨a, ha⟩ := hk p hp'
      rw [ha] at hs
      exact ⟨p, hp', by rw [ha]; simpa [Lit.sameKey, Go.intOf] using hs⟩
def KB (m : Int → Option Value) : Prop := ∀ k, (m k).isSome = true → 0 ≤ k ∧ k ≤ 30000000
theorem KB.upd {m : Int → Option Value} (h : KB m) {k : Int} (hk : 0 ≤ k ∧ k ≤ 30000000) (v : Option Value) : KB (upd m k v) := fun j hj => by
  by_cases e : j = k
  · rw [e]; exact hk
  · rw [upd_other m v e] at hj; exact h j hj
theorem MapV.size_le (h : MapV w b m) (hb : KB m) {D : DV} (h1 : w.ownsMap Tryz.prog 3 anyE b (Maps.size D) D) (h2 : ∀ k, k ∈ intKeys D ↔ (m k).isSome = true) (h3 : (intKeys D).Nodup) : Maps.size D ≤ 30000001 :=
  size_bd (h1.tidy keyedI) (fun p hp => hb p ((h2 p).1 hp)) h3
theorem MapV.put (h : MapV w b m) (hb : KB m) {t e : TypeId} (ht : Tryz.prog.underlying t = some (.map 3 e)) {k : Int} (hk : wf64 k) (v : Value) :
    ∃ w', (Instr.mapUpdate t (.map (some b)) (.int .i64 k) v).run Tryz.prog w = .ok () w' ∧ MapV w' b (upd m k (some v)) ∧ Frm (fun j => j = b) w w' := by
  obtain ⟨D, h1, h2, h3, h4, h5⟩ := h.keys
  have hsz := h.size_le hb h1 h3 h2
  obtain ⟨w', r1, r2, r3⟩ := h1.update keyedI ht (by unfold maxLen; omega) (keyI hk) (val := v) (d := .held v) (ps := []) rfl
  refine ⟨w', r1, ⟨_, shrink r2, fun j => ?_⟩, (Frm.of_grown r3).mono (fun i _ e => by injection e with e; exact e.symm)⟩
  by_cases e : j = k
  · subst e
    rw [upd_same]
    refine ⟨by rw [Maps.has_put_same h1.isMap (by trivial)]; rfl, fun u hu z => ?_⟩
    injection hu with hu
    subst hu
    exact Maps.atKey_put_same h1.isMap (by trivial) _ _
  · rw [upd_other _ _ e, Maps.has_put_other (litI_ne e)]
    refine ⟨(h5 j).1, fun u hu z => ?_⟩
    rw [Maps.atKey_put_other (litI_ne e)]
    exact (h5 j).2 u hu z
theorem MapV.del (h : MapV w b m) {t e : TypeId} (ht : Tryz.prog.underlying t = some (.map 3 e)) {k : Int} (hk : wf64 k) (ty : TypeId) :
    ∃ w', (Builtin.delete_ #[t, 3] ty #[.map (some b), .int .i64 k]).run Tryz.prog w = .ok (.tuple #[]) w' ∧ MapV w' b (upd m k none) ∧ Frm (fun j => j = b) w w' := by
  obtain ⟨D, h1, h2⟩ := h
  obtain ⟨w', r1, r2, r3⟩ := h1.drop keyedI ht (keyI hk) ty
  refine ⟨w', r1, ⟨_, shrink r2, fun j => ?_⟩, (Frm.of_grown r3.grown).mono (fun i _ e => by injection e with e; exact e.symm)⟩
  by_cases e : j = k
  · subst e
    rw [upd_same]
    exact ⟨by rw [Maps.has_del_same]; rfl, fun u hu => by cases hu⟩
  · rw [upd_other _ _ e, Maps.has_del_other (litI_ne e)]
    refine ⟨(h2 j).1, fun u hu z => ?_⟩
    rw [Maps.atKey_del_other (litI_ne e)]
    exact (h2 j).2 u hu z
theorem MapV.len (h : MapV w b m) (hb : KB m) {t e : TypeId} (ht : Tryz.prog.underlying t = some (.map 3 e)) : ∃ ks : List Int, ks.Nodup ∧ (∀ k, k ∈ ks ↔ (m k).isSome = true) ∧ ks.length ≤ 30000001 ∧ ∀ ty, (Builtin.len_ #[t] ty #[.map (some b)]).run Tryz.prog w = .ok (.int .i64 (ks.length : Int)) w := by
  obtain ⟨D, h1, h2, h3, h4, h5⟩ := h.keys
  have hsz := h.size_le hb h1 h3 h2
  exact ⟨intKeys D, h2, h3, by omega, fun ty => by rw [h1.len ht ty, h4]⟩
end
section
variable (w : World) {ops : Array Oper} {rest : List Oper} {o : Oper} {a : Act} {Q : Exit → Act → World → Prop}
theorem wpList_putV (hg : o.guard = none) (mo x v : Operand) (t : TypeId) (hop : o.op = Op.mapUpdate t mo x v) {e : TypeId} (ht : Tryz.prog.underlying t = some (.map 3 e)) (b : Nat) (m : Int → Option Value)
    (hm : a.eval mo = .map (some b)) (h : MapV w b m) (hb : KB m) (k : Int) (val : Value) (hx : a.eval x = .int .i64 k) (hv : a.eval v = val) (hk : wf64 k)
    (hK : ∀ w', MapV w' b (upd m k (some val)) → Frm (fun j => j = b) w w' → wpList Tryz.prog ops Q rest (a.put o.dst undef) w') : wpList Tryz.prog ops Q (o :: rest) a w := by
  refine wpList_plain hg fun K' hK' => ?_
  obtain ⟨w', hrun, r1, r2⟩ := h.put hb ht hk val
  unfold Oper.wp
  simp [execOp, hop, hm, hx, hv, hrun, Result.andThen]
  exact hK' _ _ (hK w' r1 r2)
theorem wpList_delV (hg : o.guard = none) (mo x : Operand) (t : TypeId) (hop : o.op = Op.call { callee := Callee.builtin Builtin.delete, args := #[mo, x], argTypes := #[t, 3] }) {e : TypeId} (ht : Tryz.prog.underlying t = some (.map 3 e)) (b : Nat) (m : Int → Option Value)
    (hm : a.eval mo = .map (some b)) (h : MapV w b m) (k : Int) (hx : a.eval x = .int .i64 k) (hk : wf64 k)
    (hK : ∀ w', MapV w' b (upd m k none) → Frm (fun j => j = b) w w' → wpList Tryz.prog ops Q rest (a.put o.dst (.tuple #[])) w') : wpList Tryz.prog ops Q (o :: rest) a w := by
  refine wpList_plain hg fun K' hK' => ?_
  obtain ⟨w', hrun, r1, r2⟩ := h.del ht hk o.type
  unfold Oper.wp
  simp [execOp, hop, resolve, invoke, builtin, hm, hx, hrun, Result.andThen]
  exact hK' _ _ (hK w' r1 r2)
end
end
section
open Go.RowKit
theorem Blk.has {w : World} {g : Nat} {t : TypeId} {cs : Array Value} (h : Blk w g t cs) {i : Nat} (hi : i < cs.size) : (w.cell? ⟨g, i, none⟩).isSome = true := by
  rw [h.cell]; simp [hi]
theorem Sl.cutN {w : World} {B e size n : Nat} {g o m cap k : Nat} {xs : List Value} (h : Sl w B e size (.slice (some ⟨g, o, none⟩) m cap) n xs) (hk : k ≤ n) :
    Sl w B e size (.slice (some ⟨g, o, none⟩) k cap) k (xs.take (k * size)) := by
  obtain ⟨h1, h2⟩ := h
  rcases h2 with ⟨hv, _⟩ | ⟨g', o', cap', cur, hv, hb, hh, hn, hm, hs, hcell⟩
  · cases hv
  · injection hv with hA hm' hcap
    injection hA with hA
    injection hA with hg ho
    subst hg ho hm' hcap
    have hkn := Nat.mul_le_mul_right size hk
    refine ⟨by rw [List.length_take]; omega, .inr ⟨g, o, cap, cur, rfl, hb, hh, by omega, hm, hs, fun j u hu => ?_⟩⟩
    rw [List.getElem?_take] at hu
    split at hu
    · exact hcell _ u hu
    · cases hu
theorem Sl.mk' {w : World} {B e size n : Nat} {g o cap : Nat} {cur : Array Value} {xs : List Value} (hB : B ≤ g) (hb : Blk w g e cur) (hl : xs.length = n * size) (hn : n ≤ cap) (hm : cap ≤ maxLen) (hs : o + cap * size ≤ cur.size) (hc : ∀ j u, xs[j]? = some u → cur[o + j]? = some u) :
    Sl w B e size (.slice (some ⟨g, o, none⟩) n cap) n xs := ⟨hl, .inr ⟨g, o, cap, cur, rfl, hB, hb, hn, hm, hs, hc⟩⟩
theorem Sl.open' {w : World} {B e size n : Nat} {g o m cap : Nat} {xs : List Value} (h : Sl w B e size (.slice (some ⟨g, o, none⟩) m cap) n xs) :
    m = n ∧ B ≤ g ∧ n ≤ cap ∧ cap ≤ maxLen ∧ ∃ cur, Blk w g e cur ∧ o + cap * size ≤ cur.size ∧ ∀ j u, xs[j]? = some u → cur[o + j]? = some u := by
  rcases h.2 with ⟨hv, _⟩ | ⟨g', o', cap', cur, hv, hb, hh, hn, hm, hs, hcell⟩
  · cases hv
  · injection hv with hA hm' hcap
    injection hA with hA
    injection hA with hg ho
    subst hg ho hm' hcap
    exact ⟨rfl, hb, hn, hm, cur, hh, hs, hcell⟩
section
variable {P : Program} (w : World)
theorem run_copy_blk (dT sT ty elem size : Nat) (g off dLen dCap : Nat) (a : Addr) (sLen sCap : Nat) (e : TypeId) (cur : Array Value) (cs : List Value)
    (hu : P.underlying dT = some (.slice elem)) (hs : (P.info? elem).map (·.size) = some size) (hg : Blk w g e cur) (hn : cs.length = Nat.min sLen dLen * size)
    (hsrc : ∀ j v, cs[j]? = some v → w.cell? (a.add j) = some v) (hfit : off + cs.length ≤ cur.size) (h1 : ∀ v ∈ cs, v.oneCell' = true) :
    (Builtin.copy_ #[dT, sT] ty #[.slice (some ⟨g, off, none⟩) dLen dCap, .slice (some a) sLen sCap]).run P w = .ok (goInt (Nat.min sLen dLen)) (w.setCells g off cs) := by
  have hl := run_firstCells_some (P := P) w size (Nat.min sLen dLen) a sLen sCap cs hn hsrc
  have hst := run_storeCells_cells (P := P) g off cs 0 w (fun j hj => hg.has (by omega)) (fun j _ => hg.frozen _) h1
  rw [Nat.add_zero] at hst
  cases hq : P.info? elem with
  | none => simp [hq] at hs
  | some i =>
    have hi : i.size = size := by simpa [hq] using hs
    subst hi
    simp [Builtin.copy_, run_underlying hu, Builtin.lenOf, sizeOf, typeInfo, hq, hl, hst]
theorem wpList_copy_blk {ops : Array Oper} {rest : List Oper} {o : Oper} {a : Act} {Q : Exit → Act → World → Prop} (hgd : o.guard = none) (d s : Operand) (dT sT : TypeId)
    (ho : o.op = .call { callee := .builtin .copy, args := #[d, s], argTypes := #[dT, sT] }) (elem size : Nat) (hu : P.underlying dT = some (.slice elem)) (hsz : (P.info? elem).map (·.size) = some size)
    (g off dLen dCap : Nat) (ad : Addr) (sLen sCap : Nat) (hd : a.eval d = .slice (some ⟨g, off, none⟩) dLen dCap) (hs : a.eval s = .slice (some ad) sLen sCap)
    (e : TypeId) (cur : Array Value) (hg : Blk w g e cur) (cs : List Value) (hn : cs.length = Nat.min sLen dLen * size)
    (hsrc : ∀ j v, cs[j]? = some v → w.cell? (ad.add j) = some v) (hfit : off + cs.length ≤ cur.size) (h1 : ∀ v ∈ cs, v.oneCell' = true)
    (h : ∀ w' cur', Blk w' g e cur' → cur'.size = cur.size → (∀ j, j < off ∨ off + cs.length ≤ j → cur'[j]? = cur[j]?) → (∀ j u, cs[j]? = some u → cur'[off + j]? = some u) → Frm (fun k => g = k) w w' →
      wpList P ops Q rest (a.put o.dst (goInt (Nat.min sLen dLen))) w') : wpList P ops Q (o :: rest) a w := by
  refine wpList_plain hgd fun K hK => ?_
  have hrun := run_copy_blk (P := P) w dT sT o.type elem size g off dLen dCap ad sLen sCap e cur cs hu hsz hg hn hsrc hfit h1
  obtain ⟨cur', k1, k2, k3, k4⟩ := blk_setCells g cs off w cur hg hfit
  unfold Oper.wp
  simp [execOp, ho, resolve, invoke, builtin, hd, hs, hrun, Result.andThen]
  exact hK _ _ (h _ cur' k1 k2 k3 k4 (frm_setCells g cs off w))
theorem step_copy_blk {ops : Array Oper} {o : Oper} {a : Act} {K : Act → World → Prop} {Q : Exit → Act → World → Prop} {E : Prop} (hgd : o.guard = none) (d s : Operand) (dT sT : TypeId)
    (ho : o.op = .call { callee := .builtin .copy, args := #[d, s], argTypes := #[dT, sT] }) (elem size : Nat) (hu : P.underlying dT = some (.slice elem)) (hsz : (P.info? elem).map (·.size) = some size)
    (g off dLen dCap : Nat) (ad : Addr) (sLen sCap : Nat) (hd : a.eval d = .slice (some ⟨g, off, none⟩) dLen dCap) (hs : a.eval s = .slice (some ad) sLen sCap)
    (e : TypeId) (cur : Array Value) (hg : Blk w g e cur) (cs : List Value) (hn : cs.length = Nat.min sLen dLen * size)
    (hsrc : ∀ j v, cs[j]? = some v → w.cell? (ad.add j) = some v) (hfit : off + cs.length ≤ cur.size) (h1 : ∀ v ∈ cs, v.oneCell' = true)
    (h : ∀ w' cur', Blk w' g e cur' → cur'.size = cur.size → (∀ j, j < off ∨ off + cs.length ≤ j → cur'[j]? = cur[j]?) → (∀ j u, cs[j]? = some u → cur'[off + j]? = some u) → Frm (fun k => g = k) w w' →
      K (a.put o.dst (goInt (Nat.min sLen dLen))) w') :
    if Region.wanted o (yielded ops a.tmps) = true then Oper.wp P o a w K Q else E := by
  have hw : Region.wanted o (yielded ops a.tmps) = true := by simp [Region.wanted, hgd]
  rw [if_pos hw]
  have hrun := run_copy_blk (P := P) w dT sT o.type elem size g off dLen dCap ad sLen sCap e cur cs hu hsz hg hn hsrc hfit h1
  obtain ⟨cur', k1, k2, k3, k4⟩ := blk_setCells g cs off w cur hg hfit
  unfold Oper.wp
  simp [execOp, ho, resolve, invoke, builtin, hd, hs, hrun, Result.andThen]
  exact h _ cur' k1 k2 k3 k4 (frm_setCells g cs off w)
theorem run_clear_blk (t elem ty size : Nat) (z : Value) (ht : P.underlying t = some (.slice elem)) (hv : ∀ w, (zeroValue elem).run P w = .ok z w) (hz : z.cells.size = size) (h1 : ∀ u ∈ z.cells.toList, u.oneCell' = true)
    (g off n c : Nat) (hn : 0 < n) (e : TypeId) (cur : Array Value) (hg : Blk w g e cur) (hfit : off + n * size ≤ cur.size) :
    ∃ cs : List Value, cs.length = n * size ∧ (Builtin.clear_ #[t] ty #[.slice (some ⟨g, off, none⟩) n c]).run P w = .ok (.tuple #[]) (w.setCells g off cs) := by
  have hlen : (Builtin.zeroCells z.cells n).toList.length = n * size := by simp [Builtin.zeroCells, hz]
  have hone : ∀ u ∈ (Builtin.zeroCells z.cells n).toList, u.oneCell' = true := by
    intro u hu
    obtain ⟨j, hj, rfl⟩ := List.mem_iff_getElem.1 hu
    have hj' := hj
    rw [hlen] at hj'
    have hsz : 0 < z.cells.size := by
      rcases Nat.eq_zero_or_pos z.cells.size with h | h
      · rw [h] at hz; subst hz; omega
      · exact h
    have hm : j % z.cells.size < z.cells.size := Nat.mod_lt _ hsz
    simp only [Builtin.zeroCells, Array.getElem_toList, Array.getElem_map, Array.getElem_range]
    rw [getElem!_pos z.cells _ hm]
    exact h1 _ (by simp)
  have hst := run_storeCells_cells (P := P) g off (Builtin.zeroCells z.cells n).toList 0 w (fun j hj => hg.has (by omega)) (fun j _ => hg.frozen _) hone
  rw [Nat.add_zero] at hst
  refine ⟨_, hlen, ?_⟩
  obtain ⟨m, rfl⟩ : ∃ m, n = m + 1 := ⟨n - 1, by omega⟩
  simp [Builtin.clear_, run_underlying ht, hv, hst]
theorem wpList_clear_blk {ops : Array Oper} {rest : List Oper} {o : Oper} {a : Act} {Q : Exit → Act → World → Prop} (hgd : o.guard = none) (s : Operand) (t : TypeId)
    (ho : o.op = .call { callee := .builtin .clear, args := #[s], argTypes := #[t] }) (elem size : Nat) (z : Value) (ht : P.underlying t = some (.slice elem)) (hv : ∀ w, (zeroValue elem).run P w = .ok z w) (hz : z.cells.size = size) (h1 : ∀ u ∈ z.cells.toList, u.oneCell' = true)
    (g off n c : Nat) (hs : a.eval s = .slice (some ⟨g, off, none⟩) n c) (hn : 0 < n) (e : TypeId) (cur : Array Value) (hg : Blk w g e cur) (hfit : off + n * size ≤ cur.size)
    (h : ∀ w' cur', Blk w' g e cur' → cur'.size = cur.size → (∀ j, j < off ∨ off + n * size ≤ j → cur'[j]? = cur[j]?) → Frm (fun k => g = k) w w' → wpList P ops Q rest (a.put o.dst (.tuple #[])) w') : wpList P ops Q (o :: rest) a w := by
  refine wpList_plain hgd fun K hK => ?_
  obtain ⟨cs, hl, hrun⟩ := run_clear_blk (P := P) w t elem o.type size z ht hv hz h1 g off n c hn e cur hg hfit
  obtain ⟨cur', k1, k2, k3, k4⟩ := blk_setCells g cs off w cur hg (by omega)
  unfold Oper.wp
  simp [execOp, ho, resolve, invoke, builtin, hs, hrun, Result.andThen]
  exact hK _ _ (h _ cur' k1 k2 (by rw [hl] at k3; exact k3) (frm_setCells g cs off w))
theorem step_append_in {ops : Array Oper} {o : Oper} {a : Act} {K : Act → World → Prop} {Q : Exit → Act → World → Prop} {E : Prop} (hgd : o.guard = none) (s x : Operand) (t : TypeId)
    (ho : o.op = .call { callee := .builtin .append, args := #[s, x], argTypes := #[t, t] }) (el : TypeId) (i : TypeInfo) (size : Nat) (ht : P.underlying t = some (.slice el)) (hi : P.info? el = some i) (hsize : i.size = size)
    (g off n cap : Nat) (hs : a.eval s = .slice (some ⟨g, off, none⟩) n cap) (ad : Addr) (m c : Nat) (hx : a.eval x = .slice (some ad) m c) (news : List Value) (hl : news.length = m * size)
    (hnews : ∀ j u, news[j]? = some u → w.cell? (ad.add j) = some u) (h1 : ∀ u ∈ news, u.oneCell' = true) (hroom : n + m ≤ cap) (n' : Nat) (hn' : n + m = n') (e : TypeId) (cur : Array Value) (hg : Blk w g e cur) (hfit : off + n * size + news.length ≤ cur.size)
    (h : ∀ w' cur', Blk w' g e cur' → cur'.size = cur.size → (∀ j, j < off + n * size ∨ off + n * size + news.length ≤ j → cur'[j]? = cur[j]?) → (∀ j u, news[j]? = some u → cur'[off + n * size + j]? = some u) → Frm (fun k => g = k) w w' →
      K (a.put o.dst (.slice (some ⟨g, off, none⟩) n' cap)) w') :
    if Region.wanted o (yielded ops a.tmps) = true then Oper.wp P o a w K Q else E := by
  have hw : Region.wanted o (yielded ops a.tmps) = true := by simp [Region.wanted, hgd]
  rw [if_pos hw]
  subst hsize hn'
  have hrun := run_append_room_cells (P := P) w t o.type el i ht hi g off n cap ad m c news hl hnews h1 hroom (fun j hj => hg.has (by omega)) (fun j _ => hg.frozen _)
  obtain ⟨cur', k1, k2, k3, k4⟩ := blk_setCells g news (off + n * i.size) w cur hg hfit
  unfold Oper.wp execOp
  simp only [ho, resolve, invoke, builtin, Sem.run_bind, Sem.run_pure, Result.andThen_ok, List.map_toArray, List.map_cons, List.map_nil, hs, hx, hrun]
  exact h _ cur' k1 k2 k3 k4 (frm_setCells g news _ w)
theorem run_append_zeros (t tn ty e : TypeId) (i : TypeInfo) (z : Value) (size bytes : Nat) (kq kn : IntKind) (ht : P.underlying t = some (.slice e)) (htn : P.underlying tn = some (.int kn)) (hi : P.info? e = some i) (hz : i.zero = some z)
    (hsize : i.size = size) (hby : i.bytes = bytes) (hzs : z.cells.size = size) (hsz : 0 < size)
    (B n cap k : Nat) (g o : Nat) (xs : List Value) (hown : Sl w B e size (.slice (some ⟨g, o, none⟩) n cap) n xs) (h0 : 0 < k) (hg : cap < n + k) (h63 : n + k ≤ maxLen) (hbytes : (n + k) * bytes ≤ 140737488355328) :
    ∃ (c : Nat) (cur : Array Value), (Builtin.append_ #[t, tn] ty #[.slice (some ⟨g, o, none⟩) n cap, .int kq (k : Int)]).run P w = .ok (.slice (some ⟨w.heap.size, 0, none⟩) (n + k) c) (w.drew.alloc (.cells cur e)) ∧
      n + k ≤ c ∧ c ≤ maxLen ∧ c * size ≤ cur.size ∧ ∀ (j : Nat) (u : Value), xs[j]? = some u → cur[j]? = some u := by
  subst hsize hby
  obtain ⟨_, _, hncap, hm, cur0, hblk, hs0, hc0⟩ := hown.open'
  have hold : (Builtin.firstCells i.size n (.slice (some ⟨g, o, none⟩) n cap)).run P w.drew = .ok xs.toArray w.drew := by
    refine run_firstCells_some (P := P) w.drew i.size n ⟨g, o, none⟩ n cap xs hown.1 (fun j v hj => ?_)
    rw [Addr.add_lit]
    have := hblk.cell (o + j)
    rw [show w.drew.cell? ⟨g, o + j, none⟩ = w.cell? ⟨g, o + j, none⟩ from rfl, this]
    exact hc0 j v hj
  have hfit := growslice_fits (old := cap) (need := n + k) (bytes := i.bytes) (by omega) hbytes
  have hrun := Lib.run_append_grow_zeros (P := P) w t tn ty e i z kq kn ht htn hi hz (some ⟨g, o, none⟩) n cap xs hold k h0 hsz hg (by unfold maxLen at h63; omega) (by
    have : k * i.bytes ≤ (n + k) * i.bytes := Nat.mul_le_mul_right _ (by omega)
    omega) hfit
  have hge := grownCap_ge w (n + k) cap e
  have hle := grownCap_le_maxLen w (n + k) cap e h63
  refine ⟨_, _, hrun, hge, hle, ?_, fun j u hu => ?_⟩
  · have hx := hown.1
    have hm : (grownCap w (n + k) cap e - (n + k)) * i.size + (n + k) * i.size = grownCap w (n + k) cap e * i.size := by rw [← Nat.add_mul]; congr 1; omega
    have hnk := Nat.add_mul n k i.size
    simp [Builtin.zeroCells, hzs]
    omega
  · have hj := (List.getElem?_eq_some_iff.1 hu).1
    rw [Array.append_assoc, Array.getElem?_append_left (by simpa using hj)]
    simpa using hu
end
end
section
open Go.RowKit
attribute [local go_sem ↓] Go.wp_at_zero Go.wp_at_succ
theorem infoI : (Tryz.prog.info? 3).map (fun i => (i.zero, i.size, i.bytes)) = some (some (.int .i64 0), 1, 8) := by kernel_rfl
theorem sizeI : (Tryz.prog.info? 3).map (·.size) = some 1 := by kernel_rfl
theorem sizeOfI (w : World) : (Go.sizeOf 3).run Tryz.prog w = .ok 1 w := by kernel_rfl
def InsPostI (w : World) (B : Nat) (v : Value) (n : Nat) (ys : List Value) (e : Ending) (w' : World) : Prop :=
  ∃ v', e = .returned v' ∧ Sl w' B 3 1 v' n ys ∧ Frm (fun k => v.ownBlock = some k) w w' ∧ (v'.ownBlock = v.ownBlock ∨ ∃ k, v'.ownBlock = some k ∧ w.heap.size ≤ k)
set_option maxRecDepth 100000 in
theorem insertI_end (w : World) (B : Nat) (v : Value) (n : Nat) (xs : List Value) (hs : Sl w B 3 1 v n xs) (hB : B ≤ w.heap.size) (hn : n ≤ 20000) (gx : Nat) (cx : List Value) (hx : Blk w gx 3 cx.toArray) (hxl : cx.length = 1) (h1x : ∀ u ∈ cx, u.oneCell' = true) :
    Calls Tryz.prog 113 #[v, .int .i64 (n : Int), .slice (some ⟨gx, 0, none⟩) 1 1] w fun e w' => InsPostI w B v (n + 1) (xs ++ cx) e w' := by
  obtain ⟨i0, hi, hz0, hz1, hz2⟩ := info_parts infoI
  have HS := zh hs
  have R : Rd w w.heap.size (some ⟨gx, 0, none⟩) cx := fun _ => ⟨gx, 0, rfl, hx.lt, fun j u hu => by rw [Nat.zero_add, hx.cell]; simpa using hu⟩
  have HR := zh R
  have HX1 := zh h1x
  have HXL := zh hxl
  obtain ⟨A, cap, rfl, hnc, hcm, hnone⟩ := hs.shape
  have HE : Hid (∀ v' w', Sl w' B 3 1 v' (n + 1) (xs ++ cx) → Frm (fun k => (Value.slice A n cap).ownBlock = some k) w w' → (v'.ownBlock = (Value.slice A n cap).ownBlock ∨ v'.ownBlock = some w.heap.size) → InsPostI w B (.slice A n cap) (n + 1) (xs ++ cx) (.returned v') w') := zh fun v' w' a b c =>
    ⟨v', rfl, a, b, c.elim .inl (fun h => .inr ⟨_, h, Nat.le_refl _⟩)⟩
  unfold maxLen at hcm
  clear R hx hs h1x hxl
  rcases A with _ | ⟨g, o, sp⟩
  · obtain ⟨rfl, rfl⟩ := hnone rfl
    go_in
    go_wp2_with (at_builtin; refine wpList_append_sl _ rfl (.tmp 23) (.tmp 24) _ rfl B 3 i0 _ 1 8 Tryz.underlying26 hi hz0 hz1 hz2 rfl (by omega) _ _ _ rfl HS.out _ _ 1 _ _ rfl (by rw [HXL.out]) HR.out HX1.out (by unfold maxLen; omega) (by omega) hB ?_; intro v1 w1 hs1 hf1 ha1)
    have HF := zh (HE.out _ _ hs1 hf1 ha1)
    clear hs1 hf1 ha1
    go_wp2_with fail
    go_ret
    exact HF.out
  · clear hnone
    obtain rfl : sp = none := by
      rcases HS.out.2 with ⟨h, _⟩ | ⟨g', o', c', cur, h, _⟩
      · cases h
      · injection h with h _ _; injection h with h; injection h
    by_cases hc : cap = n
    · go_in
      go_wp2_with (at_builtin; refine wpList_append_sl _ rfl (.tmp 23) (.tmp 24) _ rfl B 3 i0 _ 1 8 Tryz.underlying26 hi hz0 hz1 hz2 rfl (by omega) _ _ _ rfl HS.out _ _ 1 _ _ rfl (by rw [HXL.out]) HR.out HX1.out (by unfold maxLen; omega) (by omega) hB ?_; intro v1 w1 hs1 hf1 ha1)
      have HF := zh (HE.out _ _ hs1 hf1 ha1)
      clear hs1 hf1 ha1
      go_wp2_with fail
      go_ret
      exact HF.out
    · go_in
      go_wp2_with (at_builtin; refine wpList_append_sl _ rfl (.tmp 23) (.tmp 24) _ rfl B 3 i0 _ 1 8 Tryz.underlying26 hi hz0 hz1 hz2 rfl (by omega) _ _ _ rfl HS.out _ _ 1 _ _ rfl (by rw [HXL.out]) HR.out HX1.out (by unfold maxLen; omega) (by omega) hB ?_; intro v1 w1 hs1 hf1 ha1)
      have HF := zh (HE.out _ _ hs1 hf1 ha1)
      clear hs1 hf1 ha1
      go_wp2_with fail
      go_ret
      exact HF.out
theorem hovI_any (w : World) (gx g : Nat) (cx cur : Array Value) (off lb cb : Nat) (hx : Blk w gx 3 cx) (hb : Blk w g 3 cur) (hk : 0 < cur.size) (hne : gx ≠ g) :
    (callFunc 151 #[.slice (some ⟨gx, 0, none⟩) 1 1, .slice (some ⟨g, off, none⟩) lb cb]).run Tryz.prog w = .ok (.value (.bool false)) w := by
  have hA : w.shape? gx = some (3, cx.size) := by unfold Blk at hx; simp [World.shape?, hx]
  have hB : w.shape? g = some (3, cur.size) := by unfold Blk at hb; simp [World.shape?, hb]
  rw [run_callFunc_extern Tryz.func151 (by kernel_rfl) (by kernel_rfl) (by kernel_rfl) (e := Extern.SlicesOverlaps.overlaps #[26, 26] #[4]) (by kernel_rfl),
    Lib.run_overlaps_apart w 26 4 3 Tryz.underlying26 1 sizeOfI ⟨gx, 0, none⟩ ⟨g, off, none⟩ 1 1 lb cb hne _ _ _ _ hA hB (by omega) (hx.frozen 0) (hx.frozen _)]
  rfl
theorem insI_cells {cur cur4 cur5 : Array Value} {o i z : Nat} {xs cx : List Value} (hix : i * 1 ≤ xs.length) (hxl : cx.length = 1) (hc : ∀ j u, xs[j]? = some u → cur[o + j]? = some u)
    (h4 : ∀ j, j < o + (i + 1) * 1 ∨ z ≤ j → cur4[j]? = cur[j]?) (k4 : ∀ j u, (xs.drop (i * 1))[j]? = some u → cur4[o + (i + 1) * 1 + j]? = some u)
    (h5 : ∀ j, j < o + i * 1 ∨ o + i * 1 + cx.length ≤ j → cur5[j]? = cur4[j]?) (k5 : ∀ j u, cx[j]? = some u → cur5[o + i * 1 + j]? = some u) :
    ∀ j u, (xs.take (i * 1) ++ cx ++ xs.drop (i * 1))[j]? = some u → cur5[o + j]? = some u := by
  intro j u hu
  have htl : (xs.take (i * 1)).length = i * 1 := by rw [List.length_take]; omega
  rw [List.append_assoc, List.getElem?_append] at hu
  split at hu
  · rename_i hj
    rw [htl] at hj
    rw [List.getElem?_take, if_pos hj] at hu
    rw [h5 _ (.inl (by omega)), h4 _ (.inl (by omega))]
    exact hc j u hu
  · rename_i hj
    rw [htl] at hj hu
    rw [List.getElem?_append] at hu
    split at hu
    · rename_i hj2
      have := k5 _ u hu
      rw [show o + i * 1 + (j - i * 1) = o + j by omega] at this
      exact this
    · rename_i hj2
      rw [hxl] at hj2 hu
      have := k4 _ u hu
      rw [show o + (i + 1) * 1 + (j - i * 1 - 1) = o + j by omega] at this
      rw [h5 _ (.inr (by omega))]
      exact this
set_option maxRecDepth 100000 in
theorem insertI_shift (w : World) (B : Nat) (g o n cap : Nat) (xs : List Value) (hs : Sl w B 3 1 (.slice (some ⟨g, o, none⟩) n cap) n xs) (hn : n ≤ 20000) (i : Nat) (hin : i < n) (hroom : n + 1 ≤ cap) (h1s : ∀ u ∈ xs, u.oneCell' = true)
    (gx : Nat) (cx : List Value) (hx : Blk w gx 3 cx.toArray) (hxl : cx.length = 1) (h1x : ∀ u ∈ cx, u.oneCell' = true) (hne : gx ≠ g) :
    Calls Tryz.prog 113 #[.slice (some ⟨g, o, none⟩) n cap, .int .i64 (i : Int), .slice (some ⟨gx, 0, none⟩) 1 1] w fun e w' => InsPostI w B (.slice (some ⟨g, o, none⟩) n cap) (n + 1) (xs.take (i * 1) ++ cx ++ xs.drop (i * 1)) e w' := by
  obtain ⟨_, hBg, hnc, hcm, cur, hblk, hsz, hc⟩ := hs.open'
  have hxsl := hs.1
  unfold maxLen at hcm
  have hov := fun off lb cb => hovI_any w gx g cx.toArray cur off lb cb hx hblk (by omega) hne
  have q1 : ¬ (i : Int) = (n : Int) := by omega
  have q2 : ¬ (cap : Int) < (n : Int) + 1 := by omega
  have q3 : (i : Int) + 1 ≤ (n : Int) + 1 := by omega
  have q4 : (0 : Int) ≤ (i : Int) := by omega
  have q5 : ¬ (cap = i + 1) := by omega
  have q6 : ¬ (cap = i) := by omega
  have q7 : (i : Int) ≤ (n : Int) := by omega
  have q8 : (n : Int) + 1 ≤ (cap : Int) := by omega
  have w1 : IntKind.i64.wrap ((i : Int) + 1) = (i : Int) + 1 := IntWalk.i64_in _ (by omega)
  have w2 : ((i : Int) + 1).toNat = i + 1 := by omega
  have w3 : (0 : Int) ≤ (i : Int) + 1 := by omega
  have w4 : (i : Int) ≤ (n : Int) + 1 := by omega
  go_in
  have hdl : (xs.drop (i * 1)).length = (n - i) * 1 := by rw [List.length_drop, hxsl, Nat.sub_mul]
  have hmin : Nat.min (n + 1 - i) (n - i) = n - i := by simp only [Nat.min_def]; split <;> omega
  have hsrc : ∀ j v, (xs.drop (i * 1))[j]? = some v → w.drew.cell? ((⟨g, o + i * 1, none⟩ : Addr).add j) = some v := fun j v hj => by
    rw [Addr.add_lit, show w.drew.cell? ⟨g, o + i * 1 + j, none⟩ = w.cell? ⟨g, o + i * 1 + j, none⟩ from rfl, hblk.cell, Nat.add_assoc]
    exact hc _ _ (by rwa [List.getElem?_drop] at hj)
  have HDL := zh hdl
  have HSRC := zh hsrc
  have HMIN := zh hmin
  have HXS := zh hxsl
  have hfit : o + (i + 1) * 1 + (n - i) * 1 ≤ cur.size := by omega
  have hblk' : Blk w.drew g 3 cur := hblk
  have HB := zh hblk'
  have H1 := zh (fun u (hu : u ∈ xs.drop (i * 1)) => h1s u (List.mem_of_mem_drop hu))
  clear hdl hmin hsrc hblk' hxsl
  go_wp2_with fail
  go_region_law (refine step_copy_blk (P := Tryz.prog) w.drew rfl (.tmp 73) (.tmp 76) _ _ rfl 3 1 Tryz.underlying26 sizeI g (o + (i + 1) * 1) (n - i) (cap - (i + 1)) ⟨g, o + i * 1, none⟩ (n + 1 - i) (cap - i) (by simp [Act.eval, Act.put]) (by simp [Act.eval, Act.put]) 3 cur HB.out (xs.drop (i * 1)) (by rw [HDL.out, HMIN.out]) HSRC.out (by rw [HDL.out]; exact hfit) H1.out ?_; intro w4 cur4 hb4 hz4 ho4 hi4 hf4)
  have hx4 : Blk w4 gx 3 cx.toArray := (show Blk w.drew gx 3 cx.toArray from hx).frm hf4 (fun h => hne h.symm)
  have hsrc4 : ∀ j v, cx[j]? = some v → w4.cell? ((⟨gx, 0, none⟩ : Addr).add j) = some v := fun j v hj => by
    rw [Addr.add_lit, Nat.zero_add, hx4.cell]
    simpa using hj
  have hmin4 : Nat.min 1 (n + 1 - i) = 1 := by simp only [Nat.min_def]; split <;> omega
  have HSRC4 := zh hsrc4
  have HMIN4 := zh hmin4
  have HB4 := zh hb4
  have HO4 := zh ho4
  have HI4 := zh hi4
  have HF4 := zh hf4
  have HC := zh hc
  have HXL := zh hxl
  have HX1 := zh h1x
  have hfit4 : o + i * 1 + 1 ≤ cur4.size := by omega
  have hcapfit : o + cap * 1 ≤ cur4.size := by omega
  clear hx4 hsrc4 hmin4 hb4 ho4 hi4 hf4 hov hx hblk hc hxl h1x hz4
  go_wp2_with (with_reducible refine wpList_copy_blk (P := Tryz.prog) w4 rfl (.tmp 80) (.tmp 81) _ _ rfl 3 1 Tryz.underlying26 sizeI g (o + i * 1) (n + 1 - i) (cap - i) ⟨gx, 0, none⟩ 1 1 (by simp [Act.eval, Act.put]) (by simp [Act.eval, Act.put]) 3 cur4 HB4.out cx (by rw [HXL.out, HMIN4.out]) HSRC4.out (by rw [HXL.out]; exact hfit4) HX1.out ?_; intro w5 cur5 hb5 hz5 ho5 hi5 hf5)
  have hcells := insI_cells (by have := HXS.out; omega) HXL.out HC.out HO4.out HI4.out ho5 hi5
  have HSL : Hid (Sl w5 B 3 1 (.slice (some ⟨g, o, none⟩) (n + 1) cap) (n + 1) (xs.take (i * 1) ++ cx ++ xs.drop (i * 1))) := zh (Sl.mk' hBg hb5 (by
    have := HXS.out
    rw [List.length_append, List.length_append, List.length_take, List.length_drop, HXL.out]
    omega) hroom (by unfold maxLen; omega) (by omega) hcells)
  have HFF : Hid (Frm (fun k => (Value.slice (some ⟨g, o, none⟩) n cap).ownBlock = some k) w w5) := zh ((((Frm.refl _ w).drew).trans HF4.out).trans hf5 |>.mono (fun k _ h => by subst h; rfl))
  clear hcells hb5 hz5 ho5 hi5 hf5
  go_wp2_with fail
  go_ret
  exact ⟨_, rfl, HSL.out, HFF.out, .inl rfl⟩
theorem insI_cells2 {cur cur4 cur5 : Array Value} {i z : Nat} {xs cx : List Value} (hix : i * 1 ≤ xs.length) (hxl : cx.length = 1) (hc : ∀ (j : Nat) (u : Value), (xs.take (i * 1))[j]? = some u → cur[j]? = some u)
    (h4 : ∀ (j : Nat), j < i * 1 ∨ i * 1 + cx.length ≤ j → cur4[j]? = cur[j]?) (k4 : ∀ (j : Nat) (u : Value), cx[j]? = some u → cur4[i * 1 + j]? = some u)
    (h5 : ∀ (j : Nat), j < (i + 1) * 1 ∨ z ≤ j → cur5[j]? = cur4[j]?) (k5 : ∀ (j : Nat) (u : Value), (xs.drop (i * 1))[j]? = some u → cur5[(i + 1) * 1 + j]? = some u) :
    ∀ (j : Nat) (u : Value), (xs.take (i * 1) ++ cx ++ xs.drop (i * 1))[j]? = some u → cur5[0 + j]? = some u := by
  intro j u hu
  rw [Nat.zero_add]
  have htl : (xs.take (i * 1)).length = i * 1 := by rw [List.length_take]; omega
  rw [List.append_assoc, List.getElem?_append] at hu
  split at hu
  · rename_i hj
    rw [htl] at hj
    rw [h5 _ (.inl (by omega)), h4 _ (.inl (by omega))]
    exact hc j u hu
  · rename_i hj
    rw [htl] at hj hu
    rw [List.getElem?_append] at hu
    split at hu
    · rename_i hj2
      have := k4 _ u hu
      rw [show i * 1 + (j - i * 1) = j by omega] at this
      rw [h5 _ (.inl (by omega))]
      exact this
    · rename_i hj2
      rw [hxl] at hj2 hu
      have := k5 _ u hu
      rw [show (i + 1) * 1 + (j - i * 1 - 1) = j by omega] at this
      exact this
set_option maxRecDepth 100000 in
theorem insertI_grow (w : World) (B : Nat) (g o n : Nat) (xs : List Value) (hs : Sl w B 3 1 (.slice (some ⟨g, o, none⟩) n n) n xs) (hn : n ≤ 20000) (hB : B ≤ w.heap.size) (i : Nat) (hin : i < n) (h1s : ∀ u ∈ xs, u.oneCell' = true)
    (gx : Nat) (cx : List Value) (hx : Blk w gx 3 cx.toArray) (hxl : cx.length = 1) (h1x : ∀ u ∈ cx, u.oneCell' = true) :
    Calls Tryz.prog 113 #[.slice (some ⟨g, o, none⟩) n n, .int .i64 (i : Int), .slice (some ⟨gx, 0, none⟩) 1 1] w fun e w' => InsPostI w B (.slice (some ⟨g, o, none⟩) n n) (n + 1) (xs.take (i * 1) ++ cx ++ xs.drop (i * 1)) e w' := by
  obtain ⟨i0, hi, hz0, hz1, hz2⟩ := info_parts infoI
  obtain ⟨_, hBg, hnc, hcm, cur, hblk, hsz, hc⟩ := hs.open'
  have hxsl := hs.1
  have hglt := hblk.lt
  have hxlt := hx.lt
  unfold maxLen at hcm
  obtain ⟨k, hk⟩ : ∃ k, n + 1 - i = k := ⟨_, rfl⟩
  have hik : i + k = n + 1 := by omega
  obtain ⟨c, cur1, hrun, hc1, hc2, hc3, hc4⟩ := run_append_zeros (P := Tryz.prog) w 26 3 26 3 i0 _ 1 8 .i64 .i64 Tryz.underlying26 Tryz.underlying3 hi hz0 hz1 hz2 rfl (by omega) B i n k g o _ (hs.cutN (k := i) (by omega)) (by omega) (by omega) (by unfold maxLen; omega) (by omega)
  rw [hik] at hrun hc1
  unfold maxLen at hc2
  have B1 : Blk (w.drew.alloc (.cells cur1 3)) w.heap.size 3 cur1 := Blk.new w.drew _ _
  have F1 : Fresh w (w.drew.alloc (.cells cur1 3)) := ((Frm.refl _ w).drew).alloc _
  have X1 : Blk (w.drew.alloc (.cells cur1 3)) gx 3 cx.toArray := hx.frm F1 (fun f => f)
  have G1 : Blk (w.drew.alloc (.cells cur1 3)) g 3 cur := hblk.frm F1 (fun f => f)
  generalize w.drew.alloc (.cells cur1 3) = w1 at hrun B1 F1 X1 G1
  obtain ⟨N, hN⟩ : ∃ N, w.heap.size = N := ⟨_, rfl⟩
  rw [hN] at hrun B1 hglt hxlt hB
  have HRUN := zh hrun
  have HB1 := zh B1
  have HF1 := zh F1
  have HX1 := zh X1
  have HG1 := zh G1
  have HC := zh hc
  have HC4 := zh hc4
  have HXL := zh hxl
  have H1X := zh h1x
  have H1 := zh (fun u (hu : u ∈ xs.drop (i * 1)) => h1s u (List.mem_of_mem_drop hu))
  have HXS := zh hxsl
  have hsrc : ∀ j v, cx[j]? = some v → w1.cell? ((⟨gx, 0, none⟩ : Addr).add j) = some v := fun j v hj => by
    rw [Addr.add_lit, Nat.zero_add, X1.cell]
    simpa using hj
  have hmin : Nat.min 1 k = 1 := by simp only [Nat.min_def]; split <;> omega
  have HSRC := zh hsrc
  have HMIN := zh hmin
  have q1 : ¬ (i : Int) = (n : Int) := by omega
  have q2 : (n : Int) < (n : Int) + 1 := by omega
  have q4 : (0 : Int) ≤ (i : Int) := by omega
  have q5 : ¬ (c = i + 1) := by omega
  have q6 : ¬ (c = i) := by omega
  have q7 : (i : Int) ≤ (n : Int) := by omega
  have q8 : ¬ (n = i) := by omega
  have q9 : (i : Int) ≤ (n : Int) + 1 := by omega
  have hkk : (n : Int) + 1 - (i : Int) = (k : Int) := by omega
  have w1' : IntKind.i64.wrap ((i : Int) + 1) = (i : Int) + 1 := IntWalk.i64_in _ (by omega)
  have w2' : ((i : Int) + 1).toNat = i + 1 := by omega
  have w3 : (0 : Int) ≤ (i : Int) + 1 := by omega
  have w4 : (i : Int) + 1 ≤ (n : Int) + 1 := by omega
  have hfit : 0 + i * 1 + 1 ≤ cur1.size := by omega
  have hfit' : i * 1 + 1 ≤ cur1.size := by omega
  have hcsz : (n + 1) * 1 ≤ cur1.size := by omega
  clear hrun B1 F1 X1 G1 hc hc4 hxl h1x hs hx hblk hxsl hsrc hmin
  go_in
  go_wp2_with (first
    | (at_builtin; refine Lib.wpList_append_run _ rfl (.tmp 34) (.tmp 39) _ _ rfl _ _ rfl rfl _ _ HRUN.out ?_)
    | (with_reducible refine wpList_copy_blk (P := Tryz.prog) w1 rfl (.tmp 43) (.tmp 44) _ _ rfl 3 1 Tryz.underlying26 sizeI N (i * 1) k (c - i) ⟨gx, 0, none⟩ 1 1 (by simp [Act.eval, Act.put]) (by simp [Act.eval, Act.put]) 3 cur1 HB1.out cx (by rw [HXL.out, HMIN.out]) HSRC.out (by rw [HXL.out]; exact hfit') H1X.out ?_; intro w2 cur2 hb2 hz2' ho2 hi2 hf2))
  have G2 : Blk w2 g 3 cur := HG1.out.frm hf2 (fun h => by omega)
  have hdl : (xs.drop (i * 1)).length = (n - i) * 1 := by rw [List.length_drop, HXS.out, Nat.sub_mul]
  have hmin2 : Nat.min (n - i) (n - i) = n - i := Nat.min_self _
  have hsrc2 : ∀ j v, (xs.drop (i * 1))[j]? = some v → w2.drew.cell? ((⟨g, o + i * 1, none⟩ : Addr).add j) = some v := fun j v hj => by
    rw [Addr.add_lit, show w2.drew.cell? ⟨g, o + i * 1 + j, none⟩ = w2.cell? ⟨g, o + i * 1 + j, none⟩ from rfl, G2.cell, Nat.add_assoc]
    exact HC.out _ _ (by rwa [List.getElem?_drop] at hj)
  have hb2' : Blk w2.drew N 3 cur2 := hb2
  have HB2 := zh hb2'
  have HDL := zh hdl
  have HMIN2 := zh hmin2
  have HSRC2 := zh hsrc2
  have HO2 := zh ho2
  have HI2 := zh hi2
  have HF2 := zh hf2
  have hfit2 : (i + 1) * 1 + (n - i) * 1 ≤ cur2.size := by omega
  have hsz2 : 0 + c * 1 ≤ cur2.size := by omega
  clear G2 hdl hmin2 hsrc2 hb2 hb2' ho2 hi2 hf2 hz2' hkk hc3
  go_region_law (refine step_copy_blk (P := Tryz.prog) w2.drew rfl (.tmp 50) (.tmp 53) _ _ rfl 3 1 Tryz.underlying26 sizeI N ((i + 1) * 1) (n - i) (c - (i + 1)) ⟨g, o + i * 1, none⟩ (n - i) (n - i) (by simp [Act.eval, Act.put]) (by simp [Act.eval, Act.put]) 3 cur2 HB2.out (xs.drop (i * 1)) (by rw [HDL.out, HMIN2.out]) HSRC2.out (by rw [HDL.out]; exact hfit2) H1.out ?_; intro w3 cur3 hb3 hz3 ho3 hi3 hf3)
  have hcells := insI_cells2 (by have := HXS.out; omega) HXL.out HC4.out HO2.out HI2.out ho3 hi3
  have HSL : Hid (Sl w3 B 3 1 (.slice (some ⟨N, 0, none⟩) (n + 1) c) (n + 1) (xs.take (i * 1) ++ cx ++ xs.drop (i * 1))) := zh (Sl.mk' hB hb3 (by
    have := HXS.out
    rw [List.length_append, List.length_append, List.length_take, List.length_drop, HXL.out]
    omega) hc1 (by unfold maxLen; omega) (by omega) hcells)
  have HFF : Hid (Frm (fun k => (Value.slice (some ⟨g, o, none⟩) n n).ownBlock = some k) w w3) := zh (((HF1.out.trans' HF2.out (fun j h1 h2 => by omega)).drew).trans' hf3 (fun j h1 h2 => by omega) |>.mono (fun _ _ h => h.elim))
  clear hcells hb3 hz3 ho3 hi3 hf3
  go_wp2_with fail
  go_ret
  exact ⟨_, rfl, HSL.out, HFF.out, .inr ⟨N, rfl, by omega⟩⟩
theorem insertI_any (w : World) (B : Nat) (v : Value) (n : Nat) (xs : List Value) (hs : Sl w B 3 1 v n xs) (hB : B ≤ w.heap.size) (hn : n ≤ 20000) (i : Nat) (hin : i ≤ n) (h1s : ∀ u ∈ xs, u.oneCell' = true)
    (gx : Nat) (cx : List Value) (hx : Blk w gx 3 cx.toArray) (hxl : cx.length = 1) (h1x : ∀ u ∈ cx, u.oneCell' = true) (hne : v.ownBlock ≠ some gx) :
    Calls Tryz.prog 113 #[v, .int .i64 (i : Int), .slice (some ⟨gx, 0, none⟩) 1 1] w fun e w' => InsPostI w B v (n + 1) (xs.take (i * 1) ++ cx ++ xs.drop (i * 1)) e w' := by
  have hl := hs.1
  rcases Nat.eq_or_lt_of_le hin with rfl | hlt
  · have h := insertI_end w B v i xs hs hB hn gx cx hx hxl h1x
    rw [← hl, List.take_length, List.drop_length, List.append_nil]
    exact h
  · obtain ⟨g, o, cap, rfl, _, _, hnc, _⟩ := hs.head (by omega)
    have hne' : gx ≠ g := fun h => hne (by rw [h]; rfl)
    rcases Nat.eq_or_lt_of_le hnc with rfl | hr
    · exact insertI_grow w B g o n xs hs hn hB i hlt h1s gx cx hx hxl h1x
    · exact insertI_shift w B g o n cap xs hs hn i hlt hr h1s gx cx hx hxl h1x hne'
end
end Go.Proofs.YtbeaoddjomdlcaaGreatDoor

/- copy, clear, append of zeros, cuts: slices whose elements have any number of cells. No program is named here. -/
import Derived.Test.YtlceembcehokoaaMem
import Derived.Laws.CopyOwn
import Derived.Lib.Overlaps
import Derived.Lib.AppendZerosOnto
namespace Go.Proofs.Ytlceembcehokoaa
open Go.RowKit

theorem Blk.has {w : World} {g : Nat} {t : TypeId} {cs : Array Value} (h : Blk w g t cs) {i : Nat} (hi : i < cs.size) : (w.cell? ⟨g, i, none⟩).isSome = true := by
  rw [h.cell]; simp [hi]
/-- a slice that is cut at its end -/
theorem Sl.cutN {w : World} {B e size n : Nat} {g o m cap k : Nat} {xs : List Value} (h : Sl w B e size (.slice (some ⟨g, o, none⟩) m cap) n xs) (hk : k ≤ n) :
    Sl w B e size (.slice (some ⟨g, o, none⟩) k cap) k (xs.take (k * size)) := by
  obtain ⟨h1, h2⟩ := h
  rcases h2 with ⟨hv, _⟩ | ⟨g', o', cap', cur, hv, hb, hh, hn, hm, hs, hcell⟩
  · cases hv
  · injection hv with hA hm' hcap
    injection hA with hA
    injection hA with hg ho
    subst hg ho hm' hcap
    have hkn := Nat.mul_le_mul_right size hk
    refine ⟨by rw [List.length_take]; omega, .inr ⟨g, o, cap, cur, rfl, hb, hh, by omega, hm, hs, fun j u hu => ?_⟩⟩
    rw [List.getElem?_take] at hu
    split at hu
    · exact hcell _ u hu
    · cases hu
/-- a row of a block as a slice of the call's own -/
theorem Sl.mk' {w : World} {B e size n : Nat} {g o cap : Nat} {cur : Array Value} {xs : List Value} (hB : B ≤ g) (hb : Blk w g e cur) (hl : xs.length = n * size) (hn : n ≤ cap) (hm : cap ≤ maxLen) (hs : o + cap * size ≤ cur.size) (hc : ∀ j u, xs[j]? = some u → cur[o + j]? = some u) :
    Sl w B e size (.slice (some ⟨g, o, none⟩) n cap) n xs := ⟨hl, .inr ⟨g, o, cap, cur, rfl, hB, hb, hn, hm, hs, hc⟩⟩
theorem Sl.open' {w : World} {B e size n : Nat} {g o m cap : Nat} {xs : List Value} (h : Sl w B e size (.slice (some ⟨g, o, none⟩) m cap) n xs) :
    m = n ∧ B ≤ g ∧ n ≤ cap ∧ cap ≤ maxLen ∧ ∃ cur, Blk w g e cur ∧ o + cap * size ≤ cur.size ∧ ∀ j u, xs[j]? = some u → cur[o + j]? = some u := by
  rcases h.2 with ⟨hv, _⟩ | ⟨g', o', cap', cur, hv, hb, hh, hn, hm, hs, hcell⟩
  · cases hv
  · injection hv with hA hm' hcap
    injection hA with hA
    injection hA with hg ho
    subst hg ho hm' hcap
    exact ⟨rfl, hb, hn, hm, cur, hh, hs, hcell⟩

section
variable {P : Program} (w : World)
theorem run_copy_blk (dT sT ty elem size : Nat) (g off dLen dCap : Nat) (a : Addr) (sLen sCap : Nat) (e : TypeId) (cur : Array Value) (cs : List Value)
    (hu : P.underlying dT = some (.slice elem)) (hs : (P.info? elem).map (·.size) = some size) (hg : Blk w g e cur) (hn : cs.length = Nat.min sLen dLen * size)
    (hsrc : ∀ j v, cs[j]? = some v → w.cell? (a.add j) = some v) (hfit : off + cs.length ≤ cur.size) (h1 : ∀ v ∈ cs, v.oneCell' = true) :
    (Builtin.copy_ #[dT, sT] ty #[.slice (some ⟨g, off, none⟩) dLen dCap, .slice (some a) sLen sCap]).run P w = .ok (goInt (Nat.min sLen dLen)) (w.setCells g off cs) := by
  have hl := run_firstCells_some (P := P) w size (Nat.min sLen dLen) a sLen sCap cs hn hsrc
  have hst := run_storeCells_cells (P := P) g off cs 0 w (fun j hj => hg.has (by omega)) (fun j _ => hg.frozen _) h1
  rw [Nat.add_zero] at hst
  cases hq : P.info? elem with
  | none => simp [hq] at hs
  | some i =>
    have hi : i.size = size := by simpa [hq] using hs
    subst hi
    simp [Builtin.copy_, run_underlying hu, Builtin.lenOf, sizeOf, typeInfo, hq, hl, hst]
/-- copy, for the walk, in a plain region: behind 'at_builtin'-less 'with_reducible refine'. The block that is written is known whole. -/
theorem wpList_copy_blk {ops : Array Oper} {rest : List Oper} {o : Oper} {a : Act} {Q : Exit → Act → World → Prop} (hgd : o.guard = none) (d s : Operand) (dT sT : TypeId)
    (ho : o.op = .call { callee := .builtin .copy, args := #[d, s], argTypes := #[dT, sT] }) (elem size : Nat) (hu : P.underlying dT = some (.slice elem)) (hsz : (P.info? elem).map (·.size) = some size)
    (g off dLen dCap : Nat) (ad : Addr) (sLen sCap : Nat) (hd : a.eval d = .slice (some ⟨g, off, none⟩) dLen dCap) (hs : a.eval s = .slice (some ad) sLen sCap)
    (e : TypeId) (cur : Array Value) (hg : Blk w g e cur) (cs : List Value) (hn : cs.length = Nat.min sLen dLen * size)
    (hsrc : ∀ j v, cs[j]? = some v → w.cell? (ad.add j) = some v) (hfit : off + cs.length ≤ cur.size) (h1 : ∀ v ∈ cs, v.oneCell' = true)
    (h : ∀ w' cur', Blk w' g e cur' → cur'.size = cur.size → (∀ j, j < off ∨ off + cs.length ≤ j → cur'[j]? = cur[j]?) → (∀ j u, cs[j]? = some u → cur'[off + j]? = some u) → Frm (fun k => g = k) w w' →
      wpList P ops Q rest (a.put o.dst (goInt (Nat.min sLen dLen))) w') : wpList P ops Q (o :: rest) a w := by
  refine wpList_plain hgd fun K hK => ?_
  have hrun := run_copy_blk (P := P) w dT sT o.type elem size g off dLen dCap ad sLen sCap e cur cs hu hsz hg hn hsrc hfit h1
  obtain ⟨cur', k1, k2, k3, k4⟩ := blk_setCells g cs off w cur hg hfit
  unfold Oper.wp
  simp [execOp, ho, resolve, invoke, builtin, hd, hs, hrun, Result.andThen]
  exact hK _ _ (h _ cur' k1 k2 k3 k4 (frm_setCells g cs off w))
/-- the same as a step of a region that draws its order -/
theorem step_copy_blk {ops : Array Oper} {o : Oper} {a : Act} {K : Act → World → Prop} {Q : Exit → Act → World → Prop} {E : Prop} (hgd : o.guard = none) (d s : Operand) (dT sT : TypeId)
    (ho : o.op = .call { callee := .builtin .copy, args := #[d, s], argTypes := #[dT, sT] }) (elem size : Nat) (hu : P.underlying dT = some (.slice elem)) (hsz : (P.info? elem).map (·.size) = some size)
    (g off dLen dCap : Nat) (ad : Addr) (sLen sCap : Nat) (hd : a.eval d = .slice (some ⟨g, off, none⟩) dLen dCap) (hs : a.eval s = .slice (some ad) sLen sCap)
    (e : TypeId) (cur : Array Value) (hg : Blk w g e cur) (cs : List Value) (hn : cs.length = Nat.min sLen dLen * size)
    (hsrc : ∀ j v, cs[j]? = some v → w.cell? (ad.add j) = some v) (hfit : off + cs.length ≤ cur.size) (h1 : ∀ v ∈ cs, v.oneCell' = true)
    (h : ∀ w' cur', Blk w' g e cur' → cur'.size = cur.size → (∀ j, j < off ∨ off + cs.length ≤ j → cur'[j]? = cur[j]?) → (∀ j u, cs[j]? = some u → cur'[off + j]? = some u) → Frm (fun k => g = k) w w' →
      K (a.put o.dst (goInt (Nat.min sLen dLen))) w') :
    if Region.wanted o (yielded ops a.tmps) = true then Oper.wp P o a w K Q else E := by
  have hw : Region.wanted o (yielded ops a.tmps) = true := by simp [Region.wanted, hgd]
  rw [if_pos hw]
  have hrun := run_copy_blk (P := P) w dT sT o.type elem size g off dLen dCap ad sLen sCap e cur cs hu hsz hg hn hsrc hfit h1
  obtain ⟨cur', k1, k2, k3, k4⟩ := blk_setCells g cs off w cur hg hfit
  unfold Oper.wp
  simp [execOp, ho, resolve, invoke, builtin, hd, hs, hrun, Result.andThen]
  exact h _ cur' k1 k2 k3 k4 (frm_setCells g cs off w)
theorem run_clear_blk (t elem ty size : Nat) (z : Value) (ht : P.underlying t = some (.slice elem)) (hv : ∀ w, (zeroValue elem).run P w = .ok z w) (hz : z.cells.size = size) (h1 : ∀ u ∈ z.cells.toList, u.oneCell' = true)
    (g off n c : Nat) (hn : 0 < n) (e : TypeId) (cur : Array Value) (hg : Blk w g e cur) (hfit : off + n * size ≤ cur.size) :
    ∃ cs : List Value, cs.length = n * size ∧ (Builtin.clear_ #[t] ty #[.slice (some ⟨g, off, none⟩) n c]).run P w = .ok (.tuple #[]) (w.setCells g off cs) := by
  have hlen : (Builtin.zeroCells z.cells n).toList.length = n * size := by simp [Builtin.zeroCells, hz]
  have hone : ∀ u ∈ (Builtin.zeroCells z.cells n).toList, u.oneCell' = true := by
    intro u hu
    obtain ⟨j, hj, rfl⟩ := List.mem_iff_getElem.1 hu
    have hj' := hj
    rw [hlen] at hj'
    have hsz : 0 < z.cells.size := by
      rcases Nat.eq_zero_or_pos z.cells.size with h | h
      · rw [h] at hz; subst hz; omega
      · exact h
    have hm : j % z.cells.size < z.cells.size := Nat.mod_lt _ hsz
    simp only [Builtin.zeroCells, Array.getElem_toList, Array.getElem_map, Array.getElem_range]
    rw [getElem!_pos z.cells _ hm]
    exact h1 _ (by simp)
  have hst := run_storeCells_cells (P := P) g off (Builtin.zeroCells z.cells n).toList 0 w (fun j hj => hg.has (by omega)) (fun j _ => hg.frozen _) hone
  rw [Nat.add_zero] at hst
  refine ⟨_, hlen, ?_⟩
  obtain ⟨m, rfl⟩ : ∃ m, n = m + 1 := ⟨n - 1, by omega⟩
  simp [Builtin.clear_, run_underlying ht, hv, hst]
theorem wpList_clear_blk {ops : Array Oper} {rest : List Oper} {o : Oper} {a : Act} {Q : Exit → Act → World → Prop} (hgd : o.guard = none) (s : Operand) (t : TypeId)
    (ho : o.op = .call { callee := .builtin .clear, args := #[s], argTypes := #[t] }) (elem size : Nat) (z : Value) (ht : P.underlying t = some (.slice elem)) (hv : ∀ w, (zeroValue elem).run P w = .ok z w) (hz : z.cells.size = size) (h1 : ∀ u ∈ z.cells.toList, u.oneCell' = true)
    (g off n c : Nat) (hs : a.eval s = .slice (some ⟨g, off, none⟩) n c) (hn : 0 < n) (e : TypeId) (cur : Array Value) (hg : Blk w g e cur) (hfit : off + n * size ≤ cur.size)
    (h : ∀ w' cur', Blk w' g e cur' → cur'.size = cur.size → (∀ j, j < off ∨ off + n * size ≤ j → cur'[j]? = cur[j]?) → Frm (fun k => g = k) w w' → wpList P ops Q rest (a.put o.dst (.tuple #[])) w') : wpList P ops Q (o :: rest) a w := by
  refine wpList_plain hgd fun K hK => ?_
  obtain ⟨cs, hl, hrun⟩ := run_clear_blk (P := P) w t elem o.type size z ht hv hz h1 g off n c hn e cur hg hfit
  obtain ⟨cur', k1, k2, k3, k4⟩ := blk_setCells g cs off w cur hg (by omega)
  unfold Oper.wp
  simp [execOp, ho, resolve, invoke, builtin, hs, hrun, Result.andThen]
  exact hK _ _ (h _ cur' k1 k2 (by rw [hl] at k3; exact k3) (frm_setCells g cs off w))
/-- append where there is room, in a known row, as a step of a region that draws its order -/
theorem step_append_in {ops : Array Oper} {o : Oper} {a : Act} {K : Act → World → Prop} {Q : Exit → Act → World → Prop} {E : Prop} (hgd : o.guard = none) (s x : Operand) (t : TypeId)
    (ho : o.op = .call { callee := .builtin .append, args := #[s, x], argTypes := #[t, t] }) (el : TypeId) (i : TypeInfo) (size : Nat) (ht : P.underlying t = some (.slice el)) (hi : P.info? el = some i) (hsize : i.size = size)
    (g off n cap : Nat) (hs : a.eval s = .slice (some ⟨g, off, none⟩) n cap) (ad : Addr) (m c : Nat) (hx : a.eval x = .slice (some ad) m c) (news : List Value) (hl : news.length = m * size)
    (hnews : ∀ j u, news[j]? = some u → w.cell? (ad.add j) = some u) (h1 : ∀ u ∈ news, u.oneCell' = true) (hroom : n + m ≤ cap) (n' : Nat) (hn' : n + m = n') (e : TypeId) (cur : Array Value) (hg : Blk w g e cur) (hfit : off + n * size + news.length ≤ cur.size)
    (h : ∀ w' cur', Blk w' g e cur' → cur'.size = cur.size → (∀ j, j < off + n * size ∨ off + n * size + news.length ≤ j → cur'[j]? = cur[j]?) → (∀ j u, news[j]? = some u → cur'[off + n * size + j]? = some u) → Frm (fun k => g = k) w w' →
      K (a.put o.dst (.slice (some ⟨g, off, none⟩) n' cap)) w') :
    if Region.wanted o (yielded ops a.tmps) = true then Oper.wp P o a w K Q else E := by
  have hw : Region.wanted o (yielded ops a.tmps) = true := by simp [Region.wanted, hgd]
  rw [if_pos hw]
  subst hsize hn'
  have hrun := run_append_room_cells (P := P) w t o.type el i ht hi g off n cap ad m c news hl hnews h1 hroom (fun j hj => hg.has (by omega)) (fun j _ => hg.frozen _)
  obtain ⟨cur', k1, k2, k3, k4⟩ := blk_setCells g news (off + n * i.size) w cur hg hfit
  unfold Oper.wp execOp
  simp only [ho, resolve, invoke, builtin, Sem.run_bind, Sem.run_pure, Result.andThen_ok, List.map_toArray, List.map_cons, List.map_nil, hs, hx, hrun]
  exact h _ cur' k1 k2 k3 k4 (frm_setCells g news _ w)
/-- append(s[:k], make(S, m)...) where there is no room: a new row, that begins with what s held -/
theorem run_append_zeros (t tn ty e : TypeId) (i : TypeInfo) (z : Value) (size bytes : Nat) (kq kn : IntKind) (ht : P.underlying t = some (.slice e)) (htn : P.underlying tn = some (.int kn)) (hi : P.info? e = some i) (hz : i.zero = some z)
    (hsize : i.size = size) (hby : i.bytes = bytes) (hzs : z.cells.size = size) (hsz : 0 < size)
    (B n cap k : Nat) (g o : Nat) (xs : List Value) (hown : Sl w B e size (.slice (some ⟨g, o, none⟩) n cap) n xs) (h0 : 0 < k) (hg : cap < n + k) (h63 : n + k ≤ maxLen) (hbytes : (n + k) * bytes ≤ 140737488355328) :
    ∃ (c : Nat) (cur : Array Value), (Builtin.append_ #[t, tn] ty #[.slice (some ⟨g, o, none⟩) n cap, .int kq (k : Int)]).run P w = .ok (.slice (some ⟨w.heap.size, 0, none⟩) (n + k) c) (w.drew.alloc (.cells cur e)) ∧
      n + k ≤ c ∧ c ≤ maxLen ∧ c * size ≤ cur.size ∧ ∀ (j : Nat) (u : Value), xs[j]? = some u → cur[j]? = some u := by
  subst hsize hby
  obtain ⟨_, _, hncap, hm, cur0, hblk, hs0, hc0⟩ := hown.open'
  have hold : (Builtin.firstCells i.size n (.slice (some ⟨g, o, none⟩) n cap)).run P w.drew = .ok xs.toArray w.drew := by
    refine run_firstCells_some (P := P) w.drew i.size n ⟨g, o, none⟩ n cap xs hown.1 (fun j v hj => ?_)
    rw [Addr.add_lit]
    have := hblk.cell (o + j)
    rw [show w.drew.cell? ⟨g, o + j, none⟩ = w.cell? ⟨g, o + j, none⟩ from rfl, this]
    exact hc0 j v hj
  have hfit := growslice_fits (old := cap) (need := n + k) (bytes := i.bytes) (by omega) hbytes
  have hrun := Lib.run_append_grow_zeros (P := P) w t tn ty e i z kq kn ht htn hi hz (some ⟨g, o, none⟩) n cap xs hold k h0 hsz hg (by unfold maxLen at h63; omega) (by
    have : k * i.bytes ≤ (n + k) * i.bytes := Nat.mul_le_mul_right _ (by omega)
    omega) hfit
  have hge := grownCap_ge w (n + k) cap e
  have hle := grownCap_le_maxLen w (n + k) cap e h63
  refine ⟨_, _, hrun, hge, hle, ?_, fun j u hu => ?_⟩
  · have hx := hown.1
    have hm : (grownCap w (n + k) cap e - (n + k)) * i.size + (n + k) * i.size = grownCap w (n + k) cap e * i.size := by rw [← Nat.add_mul]; congr 1; omega
    have hnk := Nat.add_mul n k i.size
    simp [Builtin.zeroCells, hzs]
    omega
  · have hj := (List.getElem?_eq_some_iff.1 hu).1
    rw [Array.append_assoc, Array.getElem?_append_left (by simpa using hj)]
    simpa using hu
end
end Go.Proofs.Ytlceembcehokoaa

/- What the program's Scan computes. -/
import Derived.Test.YtlceembcehokoaaScanIt
import Derived.Shelf.Abstract
namespace Go.Proofs.Ytlceembcehokoaa.Rc
set_option maxRecDepth 100000
open Go.RowKit
attribute [local go_sem] Oper.semAt_some

theorem wpListIn_append_sl {F : Fence} {m0 : Nat} {P : Program} (w : World) {ops : Array Oper} {rest : List Oper} {o : Oper} {a : Act} {Q : Exit → Act → World → Prop} (hgd : o.guard = none) (s x : Operand) (t : TypeId)
    (ho : o.op = .call { callee := .builtin .append, args := #[s, x], argTypes := #[t, t] })
    (B : Nat) (e : TypeId) (i : TypeInfo) (z : Value) (size bytes : Nat) (ht : P.underlying t = some (.slice e)) (hi : P.info? e = some i) (hz : i.zero = some z)
    (hsize : i.size = size) (hby : i.bytes = bytes) (hzs : z.cells.size = size) (hsz : 0 < size)
    (v : Value) (n : Nat) (xs : List Value) (hs : a.eval s = v) (hown : Sl w B e size v n xs)
    (B' : Nat) (A : Option Addr) (m c : Nat) (news : List Value) (hx : a.eval x = .slice A m c) (hl : news.length = m * size) (hr : Rd w B' A news) (h1 : ∀ u ∈ news, u.oneCell' = true)
    (h63 : n + m ≤ maxLen) (hbytes : (n + m) * bytes ≤ 140737488355328) (hB : B ≤ w.heap.size)
    (h : ∀ v' w', Sl w' B e size v' (n + m) (xs ++ news) → Frm (fun k => v.ownBlock = some k) w w' → (v'.ownBlock = v.ownBlock ∨ v'.ownBlock = some w.heap.size) → wpListIn F m0 P ops Q rest (a.put o.dst v') w') : wpListIn F m0 P ops Q (o :: rest) a w := by
  refine wpListIn_plain hgd fun K hK => ?_
  obtain ⟨v', w', hrun, h2, h3, h4⟩ := run_append_sl (P := P) w B t o.type e i z size bytes ht hi hz hsize hby hzs hsz v n xs hown B' A m c news hl hr h1 h63 hbytes hB
  unfold Oper.wpIn
  refine ⟨?_, ?_⟩
  · simp [Oper.about, ho, resolve, Target.leads, Sem.run_pure]
  · rw [Oper.semAt_plain F _ _ (by rw [ho]; intro c hc; cases hc)]
    simp [execOp, ho, resolve, invoke, builtin, hs, hx, hrun, Result.andThen]
    exact hK _ _ (h v' w' h2 h3 h4)

theorem Lists.frm {S : Nat → Prop} {w w' : World} {B : Nat} {v : Value} {l : List (List UInt8)} (h : Lists w B v l) (hf : Frm S w w') (hn : ∀ k, B ≤ k → k < w.heap.size → ¬ S k) : Lists w' B v l := by
  obtain ⟨bl, h1, h2, h3⟩ := h
  exact ⟨bl, h1.frm hf (fun k hk => hn k (h1.lt k hk).1 (h1.lt k hk).2), fun b hb => (h2 b hb).frm hf (fun k hk => hn k ((h2 b hb).lt k hk).1 ((h2 b hb).lt k hk).2), h3⟩
theorem Lists.less {w : World} {B B' : Nat} {v : Value} {l : List (List UInt8)} (h : Lists w B v l) (hB : B' ≤ B) : Lists w B' v l := by
  obtain ⟨bl, h1, h2, h3⟩ := h
  exact ⟨bl, h1.less hB, fun b hb => (h2 b hb).less hB, h3⟩
theorem Lists.shape {w : World} {B : Nat} {v : Value} {l : List (List UInt8)} (h : Lists w B v l) : ∃ A cap, v = .slice A l.length cap ∧ l.length ≤ cap ∧ cap ≤ maxLen := by
  obtain ⟨A, cap, h1, h2, h3, _⟩ := h.reads
  exact ⟨A, cap, h1, h2, h3⟩
theorem frm_putObj (w : World) (l : Nat) (o : Obj) : Frm (fun k => k = l) w (w.putObj l o) :=
  ⟨rfl, rfl, rfl, by simp, fun k _ hn => World.putObj_heap_other hn⟩
theorem blk_heap {w : World} {g : Nat} {t : TypeId} {cs : Array Value} (h : Blk w g t cs) : w.heap[g]? = some (.cells cs t (0, 0)) := h

theorem records_any (w : World) (A : Option Addr) (n c : Nat) : Calls Try.prog 89 #[.slice A n c] w fun e w' => e = .returned (.func (.func 113) #[] #[.pointer (some ⟨w.heap.size, 0, none⟩)]) ∧ w' = w.alloc (.cells #[.slice A n c] 26) := by
  go_enter Try.func89, Try.ntmps89
  go_wp2_with fail
  go_ret
  exact ⟨rfl, rfl⟩
/-- a range over the program's records: what the loop's own cells hold, and one walk of its body -/
theorem range_records {n : Nat} {g : Operand} {p : Tmp} {assign body : Code} {Q : Exit → Act → World → Prop} {a : Act} {w0 : World} {Bn B0 : Nat} {A : Option Addr} {cap : Nat} {bs : List UInt8}
    (hg : a.eval g = .func (.func 113) #[] #[.pointer (some ⟨Bn, 0, none⟩)]) (hl : bs.length ≤ 1000000) (hbox : Box w0 B0 Bn A cap bs)
    (I : List (List UInt8) → World → Prop) (hI : ∀ s A B, I s A → Frm (fun k => k = Bn ∨ k = w0.heap.size ∨ k = w0.heap.size + 1) A B → I s B) (h0 : I [] w0)
    (a₁ : Value → Act)
    (hassign : ∀ (l : Nat) (v : Value) (W : World) (K : Act → World → Prop), K (a₁ v) W →
      assign.wpIn (Fence.wide.inRound l) (n - 1 - 1) Try.prog (Exit.then K (fun _ _ _ => False)) { tmps := a.tmps.setIfInBounds p v, defers := [] } W)
    (hbody : ∀ (l : Nat) (pre : List (List UInt8)) (x : List UInt8) (A' : Option Addr) (c' : Nat) (W : World), I pre W → Rd W B0 A' (x.map bv) → B0 ≤ W.heap.size → w0.heap.size + 2 ≤ W.heap.size → (recs pre).length + x.length + 8 ≤ bs.length →
      body.wpIn (Fence.wide.inRound l) (n - 1 - 1) Try.prog (fun e _ W' => e = .normal ∧ I (pre ++ [x]) W' ∧ Frm (fun k => B0 ≤ k ∧ k ≠ Bn ∧ k ≠ w0.heap.size ∧ k ≠ w0.heap.size + 1) W W') (a₁ (.slice A' x.length c')) W)
    (hdone : ∀ W, I (scan bs).1 W → W.heap[w0.heap.size]? = some (.deferred (some [])) → Q .normal { a with defers := { target := .collected w0.heap.size, args := #[] } :: a.defers } W) :
    (Code.rangeFunc g #[p] assign body).wpIn Fence.wide n Try.prog Q a w0 := by
  have hBn : Bn < w0.heap.size := hbox.box.lt
  have hB0 := hbox.hB
  refine wpIn_rangeFunc ?_
  intro fn hfn
  rw [show Fence.wide.round = none from rfl]
  obtain ⟨rec, hrec⟩ : ∃ rec : LoopState → Option Code → Loop, rec = fun st pe => { state := st, pending := pe, fn, tmps := a.tmps, params := #[p], assign, body, defers := w0.heap.size } := ⟨_, rfl⟩
  obtain ⟨W1, hW1⟩ : ∃ W1, (w0.alloc (.deferred (some []))).alloc (.loop (rec .ready none)) = W1 := ⟨_, rfl⟩
  have F1 : Fresh w0 W1 := by rw [← hW1]; exact ((Frm.refl _ w0).alloc _).alloc _
  have hL1 : W1.heap[w0.heap.size + 1]? = some (.loop (rec .ready none)) := by
    rw [← hW1]; have := World.alloc_heap_new (w0.alloc (.deferred (some []))) (.loop (rec .ready none)); rwa [World.size_alloc] at this
  have hK1 : W1.heap[w0.heap.size]? = some (.deferred (some [])) := by
    rw [← hW1]; exact (Below.heap_alloc _ _ _ (by simp)).trans (World.alloc_heap_new w0 _)
  refine ⟨w0.heap.size + 1, [{ target := .collected w0.heap.size, args := #[] }], W1, { target := .fn (.func 113) #[.pointer (some ⟨Bn, 0, none⟩)], args := #[.func (.yield (w0.heap.size + 1)) #[] #[]] }, W1, 113,
    #[.func (.yield (w0.heap.size + 1)) #[] #[], .pointer (some ⟨Bn, 0, none⟩)], W1, ?_, ?_, ?_, ?_, (fun h => (by cases h)), ?_⟩
  · rw [← hW1, hrec]; exact run_enterLoop_outer _ _ _ _ _
  · simp only [resolve, hg]
    simp [go_sem]
  · intro f' hf'; trivial
  · have eg := enters_of Try.func113 (by kernel_rfl) rfl
    simp [invoke, go_sem]
  · refine (records1_in (n - 1) (w0.heap.size + 1) Bn B0 bs hl
      (fun pre W => I pre W ∧ W.heap[w0.heap.size + 1]? = some (.loop (rec .ready none)) ∧ W.heap[w0.heap.size]? = some (.deferred (some []))) ?_ ?_ W1 A cap (hbox.frm F1 (fun f => f) (fun _ _ f => f)) ⟨hI _ _ _ h0 F1.frm, hL1, hK1⟩).mono ?_
    · rintro s A B ⟨h1, h2, h3⟩ hf
      have hs1 := (Array.getElem?_eq_some_iff.1 h2).1
      exact ⟨hI _ _ _ h1 (hf.mono (fun _ _ e => .inl e)), (hf.block _ hs1 (by omega)).trans h2, (hf.block _ (by omega) (by omega)).trans h3⟩
    · rintro pre x A' c' W ⟨hi, hl2, hk⟩ hr hB hlen
      have hlt : w0.heap.size + 1 < W.heap.size := (Array.getElem?_eq_some_iff.1 hl2).1
      have hy := run_yield (P := Try.prog) (args := #[.slice A' x.length c']) hl2 (by rw [hrec]; rfl)
      have hy : (Instr.yield (w0.heap.size + 1) #[.slice A' x.length c']).run Try.prog W = .ok (.round (w0.heap.size + 1) fn (a.tmps.setIfInBounds p (.slice A' x.length c')) assign body) W := by
        rw [hy, hrec]; simp
      refine ⟨fn, _, assign, body, hy, roundIn_of_wpIn hfn ?_⟩
      refine hassign _ (.slice A' x.length c') W _ ?_
      refine ⟨_, run_beginRound hl2 (by rw [hrec]), ?_⟩
      obtain ⟨W2, hW2⟩ : ∃ W2, W.putObj (w0.heap.size + 1) (.loop { rec .ready none with state := .busy }) = W2 := ⟨_, rfl⟩
      rw [hW2]
      have F2 : Frm (fun k => k = w0.heap.size + 1) W W2 := by rw [← hW2]; exact frm_putObj _ _ _
      have hl3 : W2.heap[w0.heap.size + 1]? = some (.loop { rec .ready none with state := .busy }) := by rw [← hW2]; exact World.putObj_heap_same hlt
      have hk3 : W2.heap[w0.heap.size]? = some (.deferred (some [])) := (F2.block _ (by omega) (by omega)).trans hk
      refine wpIn_mono (hbody _ pre x A' c' W2 (hI _ _ _ hi (F2.mono (fun _ _ e => .inr (.inr e)))) (hr.frm hB F2 (fun q _ hq => by omega)) (Nat.le_trans hB F2.size) (by have := F2.size; omega) hlen) ?_
      rintro e a3 W3 ⟨rfl, hi3, F3⟩
      have hl4 : W3.heap[w0.heap.size + 1]? = some (.loop { rec .ready none with state := .busy }) := (F3.block _ (by have := F2.size; omega) (fun h => h.2.2.2 rfl)).trans hl3
      have hk4 : W3.heap[w0.heap.size]? = some (.deferred (some [])) := (F3.block _ (by have := F2.size; omega) (fun h => h.2.2.1 rfl)).trans hk3
      have hsz3 : w0.heap.size + 1 < W3.heap.size := (Array.getElem?_eq_some_iff.1 hl4).1
      have hend := run_endRound (P := Try.prog) none hl4
      obtain ⟨W4, hW4⟩ : ∃ W4, W3.putObj (w0.heap.size + 1) (.loop (rec .ready none)) = W4 := ⟨_, rfl⟩
      have F4 : Frm (fun k => k = w0.heap.size + 1) W3 W4 := by rw [← hW4]; exact frm_putObj _ _ _
      have hl5 : W4.heap[w0.heap.size + 1]? = some (.loop (rec .ready none)) := by rw [← hW4]; exact World.putObj_heap_same hsz3
      refine ⟨_, W4, ?_, rfl, ⟨hI _ _ _ hi3 (F4.mono (fun _ _ e => .inr (.inr e))), hl5, (F4.block _ (by omega) (by omega)).trans hk4⟩, ?_⟩
      · rw [hend, ← hW4, hrec]
        rfl
      · refine ((F2.mono (fun i _ e => ?_)).trans' (F3.mono (fun i _ e => ?_)) (fun _ _ e => e)).trans' (F4.mono (fun i _ e => ?_)) (fun _ _ e => e)
        · exact ⟨by omega, by omega⟩
        · exact ⟨e.1, e.2.1⟩
        · exact ⟨by omega, by omega⟩
    · rintro e W2 ⟨⟨v, rfl⟩, hi, hl2, hk⟩
      have hend := run_endLoop (P := Try.prog) hl2 (by rw [hrec]; simp)
      have F2 := frm_putObj W2 (w0.heap.size + 1) (.loop { rec .ready none with state := .exhausted })
      have hlt : w0.heap.size + 1 < W2.heap.size := (Array.getElem?_eq_some_iff.1 hl2).1
      exact ⟨none, _, by rw [hend, hrec], hdone _ (hI _ _ _ hi (F2.mono (fun _ _ e => .inr (.inr e)))) ((F2.block _ (by omega) (by omega)).trans hk)⟩
end Go.Proofs.Ytlceembcehokoaa.Rc

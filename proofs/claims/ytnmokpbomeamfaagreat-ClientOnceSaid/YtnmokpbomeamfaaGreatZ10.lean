/- Proved here, for the statement ClientOnceSaid: laws that its walk leans on. It holds with no condition. (Put together and shortened by a program out of many texts: On27, On28, On29, On30, Read, FieldMath2.) -/
import Derived.Test.YtnmokpbomeamfaaGreatZ09
set_option linter.unusedVariables false
set_option maxRecDepth 100000
set_option maxHeartbeats 64000000
namespace Go.Proofs.YtnmokpbomeamfaaGreat
section
open QueueM
theorem mem_del {l : List Wt} (hn : (l.map (·.id)).Nodup) {id : Int} {x : Wt} : x ∈ del id l ↔ x ∈ l ∧ x.id ≠ id := by
 induction l with
 | nil => simp [del]
 | cons y l ih =>
  rw [zW, List.nodup_cons] at hn
  by_cases hy : y.id = id
  ·have e : del id (y :: l) = l := by
    unfold del place
    rw [List.findIdx_cons]
    simp [hy]
   rw [e]
   constructor
   ·intro hx
    refine ⟨List.mem_cons_of_mem _ hx, fun he => hn.1 ?_⟩
    rw [hy, ← he]
    exact zQ.2 ⟨x, hx, rfl⟩
   ·rintro ⟨hx, he⟩
    rcases zU.1 hx with rfl | hx
    ·exact absurd hy he
    ·exact hx
  ·have e : del id (y :: l) = y :: del id l := by
    unfold del place
    rw [List.findIdx_cons]
    simp [hy]
   rw [e, zU, ih hn.2, zU]
   constructor
   ·rintro (rfl | ⟨h1, h2⟩)
    ·exact ⟨.inl rfl, hy⟩
    ·exact ⟨.inr h1, h2⟩
   ·rintro ⟨rfl | h1, h2⟩
    ·exact .inl rfl
    ·exact .inr ⟨h1, h2⟩
theorem sum_set : ∀ (l : List Nat) (k v : Nat) (h : k < l.length), (l.set k v).sum + l[k] = l.sum + v
 | x :: r, 0, v, _ => by simp; omega
 | x :: r, k + 1, v, h => by
  have := sum_set r k v (by simpa using h)
  simp at this ⊢
  omega
theorem ids_inj : ∀ (l : List Bk), (l.map (·.id)).Nodup → ∀ y ∈ l, ∀ z ∈ l, y.id = z.id → y = z
 | [], _, y, hy, _, _, _ => by cases hy
 | x :: r, h, y, hy, z, hz, e => by
  rw [zW, List.nodup_cons] at h
  rcases zU.1 hy with hy1 | hy1
  ·rcases zU.1 hz with hz1 | hz1
   ·rw [hy1, hz1]
   ·exact absurd (show x.id ∈ r.map (·.id) from zQ.2 ⟨z, hz1, by rw [← e, hy1]⟩) h.1
  ·rcases zU.1 hz with hz1 | hz1
   ·exact absurd (show x.id ∈ r.map (·.id) from zQ.2 ⟨y, hy1, by rw [e, hz1]⟩) h.1
   ·exact ids_inj r h.2 y hy1 z hz1 e
theorem nums_inj {l : List Pl} (h : (l.map (fun p => p.f.num)).Nodup) {i j : Nat} (hi : i < l.length) (hj : j < l.length) (e : l[i].f.num = l[j].f.num) : i = j := by
 have := List.pairwise_iff_getElem.1 h
 rcases Nat.lt_trichotomy i j with h1 | h1 | h1
 ·exact absurd (by rw [List.getElem_map, List.getElem_map]; exact e) (this i j (by simpa using hi) (by simpa using hj) h1)
 ·exact h1
 ·exact absurd (by rw [List.getElem_map, List.getElem_map]; exact e.symm) (this j i (by simpa using hj) (by simpa using hi) h1)
theorem mem_cutAt {α : Type} {l : List α} {i : Nat} (h : i < l.length) {y : α} (hy : y ∈ l) (hn : y ≠ l[i]) : y ∈ cutAt l i := by
 unfold cutAt
 have e : l = l.take i ++ l[i] :: l.drop (i + 1) := by rw [← zK h, List.take_append_drop]
 rw [e] at hy
 rcases zy.1 hy with hy | hy
 ·exact zy.2 (.inl hy)
 ·rcases zU.1 hy with rfl | hy
  ·exact absurd rfl hn
  ·exact zy.2 (.inr hy)
theorem cutAt_sub {α : Type} (l : List α) (i : Nat) : (cutAt l i).Sublist l := by
 have h : (l.drop (i + 1)).Sublist (l.drop i) := by
  rw [← List.drop_drop]
  exact List.drop_sublist _ _
 have h2 := (List.Sublist.refl (l.take i)).append h
 rw [List.take_append_drop] at h2
 exact h2
theorem mem_set_ne {α : Type} {l : List α} {i : Nat} (h : i < l.length) {v y : α} (hy : y ∈ l) (hn : y ≠ l[i]) : y ∈ l.set i v := by
 obtain ⟨m, hm, rfl⟩ := List.mem_iff_getElem.1 hy
 have hmi : m ≠ i := fun e => by subst e; exact hn rfl
 rw [List.mem_iff_getElem]
 exact ⟨m, by rw [zz]; exact hm, by rw [List.getElem_set, zk (fun e => hmi e.symm)]⟩
theorem BookOk.setK {n n' : Nat} {x : Book} (h : BookOk n x) {k : Nat} (hk : k < x.fs.length) {p' : Pl} {l' : List Bk} {next' : Int} (hf : FlOk p'.f ∧ QueueM.Good p'.q) (hnum : p'.f.num = x.fs[k].f.num)
 (hth : p'.f.hs.length + p'.q.length + n ≤ (x.fs[k].f.hs.length + x.fs[k].q.length) + n') (hlen : l'.length ≤ n') (hnext : 1 ≤ next' ∧ next' ≤ (n' : Int) + 1) (hids : (l'.map (·.id)).Nodup)
 (hbk : ∀ y ∈ l', (1 ≤ y.id ∧ y.id < next') ∧ (0 ≤ y.fl ∧ y.fl ≤ 9999) ∧ (0 ≤ y.cl ∧ y.cl ≤ 9999) ∧ (0 ≤ y.mn ∧ y.mn ≤ 9999) ∧ (1 ≤ y.st ∧ y.st ≤ 3) ∧ (0 ≤ y.un ∧ y.un ≤ 1099511627776) ∧ ∃ p ∈ x.fs, p.f.num = y.fl)
 (hwk : ∀ v ∈ p'.q, ∃ y ∈ l', y.id = v.id ∧ y.fl = x.fs[k].f.num ∧ y.st = 3) (hwo : ∀ i (hi : i < x.fs.length), i ≠ k → ∀ v ∈ x.fs[i].q, ∃ y ∈ l', y.id = v.id ∧ y.fl = x.fs[i].f.num ∧ y.st = 3) :
 BookOk n' { x with next := next', fs := x.fs.set k p', l := l' } := by
 have hnums : (x.fs.set k p').map (fun p => p.f.num) = x.fs.map (fun p => p.f.num) := by
  rw [List.map_set, hnum]
  apply List.ext_getElem
  ·simp
  ·intro i h1 h2
   rw [List.getElem_set]
   split
   ·rename_i e; subst e; simp
   ·rfl
 refine ⟨?_, ?_, ?_, ?_, hlen, hnext, h.now, hids, ?_, ?_⟩
 ·show (x.fs.set k p').length ≤ 8
  rw [zz]; exact h.few
 ·intro p hp
  rcases List.mem_or_eq_of_mem_set hp with hp | rfl
  ·exact h.fl p hp
  ·exact hf
 ·show ((x.fs.set k p').map (fun p => p.f.num)).Nodup
  rw [hnums]; exact h.nums
 ·show ((x.fs.set k p').map (fun p => p.f.hs.length + p.q.length)).sum ≤ n'
  rw [List.map_set]
  have := sum_set (x.fs.map (fun p => p.f.hs.length + p.q.length)) k (p'.f.hs.length + p'.q.length) (by simpa using hk)
  rw [List.getElem_map] at this
  have ht := h.things
  omega
 ·intro y hy
  obtain ⟨a1, a2, a3, a4, a5, a6, p, hp, he⟩ := hbk y hy
  refine ⟨a1, a2, a3, a4, a5, a6, ?_⟩
  obtain ⟨m, hm, rfl⟩ := List.mem_iff_getElem.1 hp
  refine ⟨(x.fs.set k p')[m]'(by rw [zz]; exact hm), ze _, ?_⟩
  rw [List.getElem_set]
  split
  ·rename_i e; subst e; rw [hnum]; exact he
  ·exact he
 ·intro p hp v hv
  obtain ⟨m, hm, rfl⟩ := List.mem_iff_getElem.1 hp
  have hm' : m < x.fs.length := by rw [zz] at hm; exact hm
  rw [List.getElem_set] at hv ⊢
  by_cases e : k = m
  ·subst e
   rw [zl rfl] at hv ⊢
   rw [hnum]
   exact hwk v hv
  ·rw [zk e] at hv ⊢
   exact hwo m hm' (fun h => e h.symm) v hv
theorem BookOk.waitAt {n : Nat} {x : Book} (h : BookOk n x) {p : Pl} (hp : p ∈ x.fs) {v : Wt} (hv : v ∈ p.q) : ∃ (i : Nat) (hi : i < x.l.length), jO v.id x = (i : Int) ∧ x.l[i].id = v.id ∧ x.l[i].fl = p.f.num ∧ x.l[i].st = 3 := by
 obtain ⟨y, hy, e1, e2, e3⟩ := h.wait p hp v hv
 unfold jO
 rcases jY (fun p : Bk => p.id) v.id x.l 0 with ⟨_, h2⟩ | ⟨i, h1, h2, h3⟩
 ·exact absurd e1 (h2 y hy)
 ·have : x.l[i] = y := ids_inj x.l h.ids _ (ze h1) y hy (by rw [e1]; exact h3)
  exact ⟨i, h1, by rw [h2]; simp, h3, by rw [this]; exact e2, by rw [this]; exact e3⟩
theorem first_mem {left : List Int} {l : List Wt} {v : Wt} (h : first left l = some v) : v ∈ l := List.mem_of_find?_eq_some h
theorem remove_yes {id : Int} {l : List Wt} (h : has id l = true) : (remove id l).2 = del id l := by unfold remove; rw [zl h]
theorem getD_get {α : Type} {l : List α} {i : Nat} (h : i < l.length) (d : α) : l.getD i d = l[i] := by simp [List.getD, h]
theorem BookOk.prom {n : Nat} {x : Book} (h : BookOk n x) {k : Nat} (hk : k < x.fs.length) {left : List Int} {v : Wt} (hf : first left (plAt x k).q = some v) : BookOk n (jS x k v) ∧ (plAt (jS x k v) k).q.length + 1 = (plAt x k).q.length := by
 have hv := first_mem hf
 rw [jP hk] at hv
 have hp := ze hk
 obtain ⟨hfo, hgo⟩ := h.fl _ hp
 obtain ⟨i, hi, hb, e1, e2, e3⟩ := h.waitAt hp hv
 have hh : has v.id x.fs[k].q = true := has_iff.2 ⟨v, hv, rfl⟩
 have hre := remove_yes hh
 have hdl := del_length (place_lt.2 hh)
 have hpl := place_lt.2 hh
 have htl := takeA_len x.fs[k].f v.id v.cls v.many
 have hst : setSt x.l (jO v.id x).toNat 2 = x.l.set i { x.l[i] with st := 2 } := by
  unfold setSt
  rw [hb, zx, getD_get hi]
 refine ⟨?_, ?_⟩
 ·unfold jS
  rw [jP hk, hst]
  refine h.setK hk (n' := n) (next' := x.next) ⟨FlOk.take hfo _ _ _, hgo.remove v.id⟩ htl.2.1 ?_ (by rw [zz]; exact h.len) h.next ?_ ?_ ?_ ?_
  ·dsimp only
   rw [hre, hdl]
   have := htl.1
   omega
  ·rw [List.map_set]
   have : (x.l.map (·.id)).set i x.l[i].id = x.l.map (·.id) := by
    apply List.ext_getElem
    ·simp
    ·intro j h1 h2
     rw [List.getElem_set]
     split
     ·rename_i e; subst e; simp
     ·rfl
   dsimp only
   rw [this]
   exact h.ids
  ·intro y hy
   rcases List.mem_or_eq_of_mem_set hy with hy | rfl
   ·exact h.bk y hy
   ·obtain ⟨a1, a2, a3, a4, a5, a6, a7⟩ := h.bk _ (ze hi)
    exact ⟨a1, a2, a3, a4, by dsimp only; omega, a6, a7⟩
  ·intro u hu
   dsimp only at hu
   rw [hre, mem_del hgo.once] at hu
   obtain ⟨y, hy, f1, f2, f3⟩ := h.wait _ hp u hu.1
   exact ⟨y, mem_set_ne hi hy (fun e => hu.2 (by rw [← f1, e, e1])), f1, f2, f3⟩
  ·intro j hj hjk u hu
   obtain ⟨y, hy, f1, f2, f3⟩ := h.wait _ (ze hj) u hu
   refine ⟨y, mem_set_ne hi hy (fun e => hjk (nums_inj h.nums hj hk ?_)), f1, f2, f3⟩
   rw [← f2, e, e2]
 ·have e5 : plAt (jS x k v) k = ⟨(takeA (plAt x k).f v.id v.cls v.many).2, (remove v.id (plAt x k).q).2⟩ := by
   have hl : k < (jS x k v).fs.length := by unfold jS; rw [zz]; exact hk
   rw [jP hl]
   unfold jS
   exact zP _
  rw [e5, jP hk]
  dsimp only
  rw [hre, hdl]
  omega
theorem promF_none {x : Book} {k : Nat} (h : first (leftA (plAt x k).f) (plAt x k).q = none) : ∀ n, promF n x k = x
 | 0 => rfl
 | n + 1 => by rw [promF, h]
theorem promA_none {x : Book} {k : Nat} (h : first (leftA (plAt x k).f) (plAt x k).q = none) : promA x k = x := promF_none h _
theorem promA_some {n : Nat} {x : Book} (hx : BookOk n x) {k : Nat} (hk : k < x.fs.length) {v : Wt} (h : first (leftA (plAt x k).f) (plAt x k).q = some v) : promA x k = promA (jS x k v) k := by
 unfold promA
 rw [← (hx.prom hk h).2, promF, h]
theorem BookOk.promF {n : Nat} : ∀ (m : Nat) (x : Book) (k : Nat), BookOk n x → k < x.fs.length → BookOk n (promF m x k) ∧ (Go.Proofs.YtnmokpbomeamfaaGreat.promF m x k).fs.length = x.fs.length ∧ (Go.Proofs.YtnmokpbomeamfaaGreat.promF m x k).l.length = x.l.length
 | 0, x, k, h, hk => ⟨h, rfl, rfl⟩
 | m + 1, x, k, h, hk => by
  rw [Go.Proofs.YtnmokpbomeamfaaGreat.promF]
  split
  ·exact ⟨h, rfl, rfl⟩
  ·rename_i v hv
   have h1 := (h.prom hk hv).1
   have h2 : (jS x k v).fs.length = x.fs.length := by unfold jS; simp
   have h3 : (jS x k v).l.length = x.l.length := by unfold jS setSt; simp
   obtain ⟨a, b, c⟩ := BookOk.promF m (jS x k v) k h1 (by rw [h2]; exact hk)
   exact ⟨a, by rw [b, h2], by rw [c, h3]⟩
theorem BookOk.promA {n : Nat} {x : Book} {k : Nat} (h : BookOk n x) (hk : k < x.fs.length) : BookOk n (promA x k) ∧ (Go.Proofs.YtnmokpbomeamfaaGreat.promA x k).fs.length = x.fs.length ∧ (Go.Proofs.YtnmokpbomeamfaaGreat.promA x k).l.length = x.l.length := h.promF _ x k hk
theorem BookOk.promAllF {n : Nat} : ∀ (m : Nat) (x : Book) (k : Nat), BookOk n x → k + m ≤ x.fs.length → BookOk n (promAllF m x k)
 | 0, x, k, h, hk => h
 | m + 1, x, k, h, hk => by
  rw [Go.Proofs.YtnmokpbomeamfaaGreat.promAllF]
  have h1 := h.promA (k := k) (by omega)
  exact BookOk.promAllF m _ _ h1.1 (by rw [h1.2.1]; omega)
end
section
open Go.RowKit QueueM
def qLen (w : World) (q : Nat) : Nat := match w.cell? ⟨q, 0, none⟩ with
 | some (.slice _ n _) => n
 | _ => 0
theorem qLen_of {w : World} {B q : Nat} {v : Value} {ws : List Wt} (h : IsR w B q v ws) : qLen w q = ws.length := by
 have hc : w.cell? ⟨q, 0, none⟩ = some v := h.blk.cell 0
 obtain ⟨A, c, rfl, _⟩ := h.sl.shape
 unfold qLen
 rw [hc]
structure PJ (w : World) (B b n k fk qk ln : Nat) (x : Book) (M' : BkM) (wr : World) : Prop where
 at_ : BookAt wr B b M'
 ok : BookOk n M'.abs
 len : k < M'.fs.length
 ptr : M'.fs[k].f = fk ∧ M'.fs[k].q = qk
 eq : promA x k = promA M'.abs k
 ft : FT bookT B w wr
 place : Blk wr w.heap.size 134 #[.pointer (some ⟨fk, 0, none⟩), .pointer (some ⟨qk, 0, none⟩)]
theorem fval_of (o : Option Wt) : ∃ (x : Wt) (fb : Bool), fval o = .tuple #[wagg x, .bool fb] ∧ ((o = none ∧ fb = false) ∨ (o = some x ∧ fb = true)) := by
 cases o with
 | none => exact ⟨⟨0, 0, 0, 0, 0⟩, false, rfl, .inl ⟨rfl, rfl⟩⟩
 | some x => exact ⟨x, true, rfl, .inr ⟨rfl, rfl⟩⟩
theorem promote18_any (w : World) (B b : Nat) (M : BkM) (n k : Nat) (h : BookAt w B b M) (hB : B ≤ w.heap.size) (hk : BookOk n M.abs) (hn : n ≤ 100) (hkm : k < M.fs.length) :
 Calls Tryz.prog 108 #[.pointer (some ⟨b, 0, none⟩), .int .i64 (k : Int)] w fun e w' => OutPost w B b (promA M.abs k) e w' := by
 obtain ⟨g, o, hFA, hgl, hp0, hp1⟩ := h.place hkm
 have y2 : w.cell? ⟨b, 2, none⟩ = some (.slice M.FA M.fs.length M.fc) := h.blk.cell 2
 rw [hFA] at y2
 obtain ⟨fk, hfk⟩ : ∃ x, x = M.fs[k].f := ⟨_, rfl⟩
 obtain ⟨qk, hqk⟩ : ∃ x, x = M.fs[k].q := ⟨_, rfl⟩
 rw [← hfk] at hp0
 rw [← hqk] at hp1
 obtain ⟨Y, hY⟩ : ∃ Y, w.alloc (.cells #[.pointer (some ⟨fk, 0, none⟩), .pointer (some ⟨qk, 0, none⟩)] 134) = Y := ⟨_, rfl⟩
 have FY : Fresh w Y := by rw [← hY]; exact jC _ _
 have H0 : Hid (PJ w B b n k fk qk M.l.length M.abs M Y) := zh ⟨h.fresh FY, hk, hkm, ⟨hfk.symm, hqk.symm⟩, rfl, FT.of_fresh FY, by rw [← hY]; exact Blk.new _ _ _⟩
 obtain ⟨fn, hfn⟩ : ∃ x, x = M.fs.length := ⟨_, rfl⟩
 rw [← hfn] at y2
 have k0 : (0 : Int) ≤ (k : Int) := by omega
 have k1 : (k : Int) < (fn : Int) := by omega
 generalize M.abs = x at H0 ⊢
 clear h hk hkm hFA hfk hqk hfn FY hgl
 go_in
 go_wp2_with fail
 try rw [hY]
 clear hY y2 hp0 hp1 k1
 go_loopw [] (fun wr => ∃ M', PJ w B b n k fk qk M.l.length x M' wr) (fun wr => qLen wr qk)
 case atStart => exact ⟨M, H0.out⟩
 case round =>
  obtain ⟨M', hj⟩ := hrel
  have HJ := zh hj
  have hlen := hj.len
  have hptr : M'.fs[k].f = fk ∧ M'.fs[k].q = qk := hj.ptr
  obtain ⟨e1, e2⟩ := hptr
  obtain ⟨hfo, hgo, hhs, hws⟩ := hj.ok.at_ hlen
  have hpa := abs_at hlen
  have HFL : Hid (∀ w', Fresh wr w' → FlAt w' B fk M'.fs[k].m) := zh fun w' F => by rw [← e1]; exact ((hj.at_.fresh F).fl _ (ze hlen)).1
  have HQU : Hid (∀ w', Fresh wr w' → IsR w' B qk M'.fs[k].v M'.fs[k].ws) := zh fun w' F => by rw [← e2]; exact (hj.at_.fresh F).qu _ (ze hlen)
  have HLE : Hid (∀ w', Fresh wr w' → Calls Tryz.prog 71 #[.pointer (some ⟨fk, 0, none⟩)] w' fun e w'' => OwnL w' (leftA M'.fs[k].m.abs) e w'') := zh fun w' F => left15_any w' B _ _ (HFL.out w' F) (by omega) hfo.few.2 hfo.mn hfo.cl
  have hll : (leftA M'.fs[k].m.abs).length ≤ 8 := by rw [leftA_len]; exact hfo.few.2
  have HFI : Hid (∀ w' A c, Fresh wr w' → Rd w' w'.heap.size A (ivs (leftA M'.fs[k].m.abs)) → Calls Tryz.prog 124 #[.pointer (some ⟨qk, 0, none⟩), .slice A (leftA M'.fs[k].m.abs).length c] w' fun e w'' => FirstPost w' (first (leftA M'.fs[k].m.abs) M'.fs[k].ws) e w'') := zh fun w' A c F hr => refFirst_any w' B qk _ _ A c _ (HQU.out w' F) (by omega) hgo.right hr (by omega)
  obtain ⟨v, fb, hfv, hcase⟩ := fval_of (first (leftA M'.fs[k].m.abs) M'.fs[k].ws)
  unfold FirstPost at HFI
  rw [hfv] at HFI
  unfold wagg at HFI
  have HCASE := zh hcase
  have HPT : Hid (∀ w', Fresh wr w' → w'.cell? ⟨w.heap.size, 0, none⟩ = some (.pointer (some ⟨fk, 0, none⟩)) ∧ w'.cell? ⟨w.heap.size, 1, none⟩ = some (.pointer (some ⟨qk, 0, none⟩))) := zh fun w' F => ⟨(hj.place.frm F (fun f => f)).cell 0, (hj.place.frm F (fun f => f)).cell 1⟩
  have HHA := zh hpa
  have HFO := zh hfo
  have HGO := zh hgo
  clear hj hcase hfv hpa hfo hgo
  have HLL := zh hll
  clear hll
  obtain ⟨lf, hlf⟩ : ∃ y, y = leftA M'.fs[k].m.abs := ⟨_, rfl⟩
  rw [← hlf] at HLE HFI HCASE HLL
  have HLF := zh hlf
  clear hlf
  obtain ⟨vi, vc, vm, vt, vs⟩ := v
  dsimp only at HFI
  go_wp2_with fail
  refine Code.wp_mono (Q := fun e a w' => e = .normal ∧ ∃ A4 c4 q5, a = ⟨#[Value.pointer (some { block := b, off := 0 }), Value.int IntKind.i64 ↑k, undef, undef, Value.pointer (some { block := w.heap.size, off := 0 }), Value.pointer (some { block := q5, off := 0 }), Value.bool fb, Value.pointer (some { block := b, off := 0 }), Value.pointer (some { block := b, off := 0 }), Value.pointer (some { block := b, off := 2 }), Value.slice (some { block := g, off := o }) fn M.fc, Value.int IntKind.i64 ↑k, Value.pointer (some { block := g, off := o + k * 2 }), Value.agg #[Value.pointer (some { block := fk, off := 0 }), Value.pointer (some { block := qk, off := 0 })], Value.tuple #[Value.agg #[Value.int IntKind.i64 vi, Value.int IntKind.i64 vc, Value.int IntKind.i64 vm, Value.int IntKind.i64 vt, Value.float FloatKind.f64 vs], Value.bool fb], Value.pointer (some { block := w.heap.size, off := 1 }), Value.pointer (some { block := qk, off := 0 }), Value.pointer (some { block := w.heap.size, off := 0 }), Value.pointer (some { block := fk, off := 0 }), Value.slice A4 lf.length c4, Value.tuple #[Value.agg #[Value.int IntKind.i64 vi, Value.int IntKind.i64 vc, Value.int IntKind.i64 vm, Value.int IntKind.i64 vt, Value.float FloatKind.f64 vs], Value.bool fb], Value.agg #[Value.int IntKind.i64 vi, Value.int IntKind.i64 vc, Value.int IntKind.i64 vm, Value.int IntKind.i64 vt, Value.float FloatKind.f64 vs], Value.bool fb, u23, u24, u25, u26, u27, u28, u29, u30, u31, u32, u33, u34, u35, u36, u37, u38, u39, u40, u41, u42, u43, u44, u45, u46, u47, u48], []⟩ ∧ Blk w' q5 175 #[.int .i64 vi, .int .i64 vc, .int .i64 vm, .int .i64 vt, .float .f64 vs] ∧ Fresh wr w' ∧ wr.heap.size ≤ q5) ?_ ?_
  rotate_left 1
  ·refine zj (S := (fun w' => w'.cell? ⟨w.heap.size, 0, none⟩ = some (.pointer (some ⟨fk, 0, none⟩)) ∧ w'.cell? ⟨w.heap.size, 1, none⟩ = some (.pointer (some ⟨qk, 0, none⟩)))) (by kernel_rfl) (HPT.out _ ((za (fun _ => False) wr).drew)) (fun hHeld => ?_)
   iterate 4 ((first | refine ztn (v := ?_) (zo rfl) ?_ | refine ztz (v := ?_) (zo rfl) ?_); try simp only [Act.put, zT, zZ, zS])
   refine zr2 4 9 (zo rfl) (zo rfl) (fun K hK => ?_) (fun K hK => ?_)
   ·go_simp
    refine (HLE.out (wr.drew) ((za (fun _ => False) wr).drew)).mono ?_
    rintro e w4 ⟨v4, rfl, s4, f4⟩
    obtain ⟨A4, c4, rfl, _⟩ := s4.shape
    have HS4 := zh s4
    have HF4 : Hid (Fresh wr w4) := zh (((za (fun _ => False) wr).drew).trans f4)
    clear s4 f4
    refine hK.out _ _ (HPT.out _ HF4.out) (fun hHeld => ?_)
    clear hK K
    try simp only [Act.put, zT, zZ, zS]
    refine zr2 5 9 (zo rfl) (zo rfl) (fun K hK => ?_) (fun K hK => ?_)
    ·go_simp
     refine (HFI.out (w4) _ _ (HF4.out) (HS4.out.rd)).mono ?_
     rintro e w5 ⟨rfl, f5⟩
     have HF5 : Hid (Fresh wr w5) := zh ((HF4.out).trans f5)
     clear f5
     refine hK.out _ _ (HPT.out _ HF5.out) (fun hHeld => ?_)
     clear hK K
     try simp only [Act.put, zT, zZ, zS]
     (refine zt 6 (v := ?_) (zo rfl) ?_; try simp only [Act.put, zT, zZ, zS])
     iterate 2 (refine ztn (v := ?_) (zo rfl) ?_; try simp only [Act.put, zT, zZ, zS])
     refine zr1 9 (zo rfl) (fun K hK => ?_)
     go_simp
     have HB9 := zh (Blk.new (w5) 175 #[.int .i64 0, .int .i64 0, .int .i64 0, .int .i64 0, .float .f64 0])
     have HF9 : Hid (Fresh wr ((w5).alloc (.cells #[.int .i64 0, .int .i64 0, .int .i64 0, .int .i64 0, .float .f64 0] 175))) := zh ((HF5.out).alloc _)
     have HQ9 : Hid (wr.heap.size ≤ (w5).heap.size) := zh (HF5.out).size
     refine hK.out _ _ (HPT.out _ HF9.out) (fun hHeld => ?_)
     clear hK K
     try simp only [Act.put, zT, zZ, zS]
     refine zr1 10 (zo rfl) (fun K hK => ?_)
     rw [zl (by rfl)]
     refine wp_store_mid _ _ _ rfl _ 0 #[.int .i64 vi, .int .i64 vc, .int .i64 vm, .int .i64 vt, .float .f64 vs] rfl rfl (HB9.out.there rfl) (by kernel_rfl) (by kernel_rfl) ?_
     have HB10 := zh (jG HB9.out (vs := [.int .i64 vi, .int .i64 vc, .int .i64 vm, .int .i64 vt, .float .f64 vs]) rfl)
     have HF10 := zh ((HF9.out).trans' (jE (w5.heap.size) [.int .i64 vi, .int .i64 vc, .int .i64 vm, .int .i64 vt, .float .f64 vs] 0 (w5.alloc (.cells #[.int .i64 0, .int .i64 0, .int .i64 0, .int .i64 0, .float .f64 0] 175))) (fun k hk e => by have := HQ9.out; omega))
     refine hK.out _ _ (HPT.out _ HF10.out) (fun hHeld => ?_)
     clear hK K
     try simp only [Act.put, zT, zZ, zS]
     (refine ztn (v := ?_) (zo rfl) ?_; try simp only [Act.put, zT, zZ, zS])
     refine wpAnyH_done (by kernel_rfl) ?_ _
     exact ⟨rfl, A4, c4, _, rfl, HB10.out, HF10.out, HQ9.out⟩
    ·go_simp
     have HB9 := zh (Blk.new (w4) 175 #[.int .i64 0, .int .i64 0, .int .i64 0, .int .i64 0, .float .f64 0])
     have HF9 : Hid (Fresh wr ((w4).alloc (.cells #[.int .i64 0, .int .i64 0, .int .i64 0, .int .i64 0, .float .f64 0] 175))) := zh ((HF4.out).alloc _)
     have HQ9 : Hid (wr.heap.size ≤ (w4).heap.size) := zh (HF4.out).size
     refine hK.out _ _ (HPT.out _ HF9.out) (fun hHeld => ?_)
     clear hK K
     try simp only [Act.put, zT, zZ, zS]
     refine zr1 5 (zo rfl) (fun K hK => ?_)
     go_simp
     refine (HFI.out (w4.alloc (.cells #[.int .i64 0, .int .i64 0, .int .i64 0, .int .i64 0, .float .f64 0] 175)) _ _ (HF9.out) (((HS4.out.alloc (.cells #[.int .i64 0, .int .i64 0, .int .i64 0, .int .i64 0, .float .f64 0] 175)).rd))).mono ?_
     rintro e w5 ⟨rfl, f5⟩
     have HF5 : Hid (Fresh wr w5) := zh ((HF9.out).trans f5)
     have HB9n := zh (HB9.out.frm f5 (fun f => f))
     clear HB9
     have HB9 := HB9n
     clear HB9n
     clear f5
     refine hK.out _ _ (HPT.out _ HF5.out) (fun hHeld => ?_)
     clear hK K
     try simp only [Act.put, zT, zZ, zS]
     iterate 3 (refine ztn (v := ?_) (zo rfl) ?_; try simp only [Act.put, zT, zZ, zS])
     refine zr1 10 (zo rfl) (fun K hK => ?_)
     rw [zl (by rfl)]
     refine wp_store_mid _ _ _ rfl _ 0 #[.int .i64 vi, .int .i64 vc, .int .i64 vm, .int .i64 vt, .float .f64 vs] rfl rfl (HB9.out.there rfl) (by kernel_rfl) (by kernel_rfl) ?_
     have HB10 := zh (jG HB9.out (vs := [.int .i64 vi, .int .i64 vc, .int .i64 vm, .int .i64 vt, .float .f64 vs]) rfl)
     have HF10 := zh ((HF5.out).trans' (jE (w4.heap.size) [.int .i64 vi, .int .i64 vc, .int .i64 vm, .int .i64 vt, .float .f64 vs] 0 (w5)) (fun k hk e => by have := HQ9.out; omega))
     refine hK.out _ _ (HPT.out _ HF10.out) (fun hHeld => ?_)
     clear hK K
     try simp only [Act.put, zT, zZ, zS]
     (refine ztn (v := ?_) (zo rfl) ?_; try simp only [Act.put, zT, zZ, zS])
     refine wpAnyH_done (by kernel_rfl) ?_ _
     exact ⟨rfl, A4, c4, _, rfl, HB10.out, HF10.out, HQ9.out⟩
   ·go_simp
    have HB9 := zh (Blk.new (wr.drew) 175 #[.int .i64 0, .int .i64 0, .int .i64 0, .int .i64 0, .float .f64 0])
    have HF9 : Hid (Fresh wr ((wr.drew).alloc (.cells #[.int .i64 0, .int .i64 0, .int .i64 0, .int .i64 0, .float .f64 0] 175))) := zh (((za (fun _ => False) wr).drew).alloc _)
    have HQ9 : Hid (wr.heap.size ≤ (wr.drew).heap.size) := zh ((za (fun _ => False) wr).drew).size
    refine hK.out _ _ (HPT.out _ HF9.out) (fun hHeld => ?_)
    clear hK K
    try simp only [Act.put, zT, zZ, zS]
    refine zr1 4 (zo rfl) (fun K hK => ?_)
    go_simp
    refine (HLE.out (wr.drew.alloc (.cells #[.int .i64 0, .int .i64 0, .int .i64 0, .int .i64 0, .float .f64 0] 175)) (HF9.out)).mono ?_
    rintro e w4 ⟨v4, rfl, s4, f4⟩
    obtain ⟨A4, c4, rfl, _⟩ := s4.shape
    have HS4 := zh s4
    have HF4 : Hid (Fresh wr w4) := zh ((HF9.out).trans f4)
    have HB9n := zh (HB9.out.frm f4 (fun f => f))
    clear HB9
    have HB9 := HB9n
    clear HB9n
    clear s4 f4
    refine hK.out _ _ (HPT.out _ HF4.out) (fun hHeld => ?_)
    clear hK K
    try simp only [Act.put, zT, zZ, zS]
    refine zr1 5 (zo rfl) (fun K hK => ?_)
    go_simp
    refine (HFI.out (w4) _ _ (HF4.out) (HS4.out.rd)).mono ?_
    rintro e w5 ⟨rfl, f5⟩
    have HF5 : Hid (Fresh wr w5) := zh ((HF4.out).trans f5)
    have HB9n := zh (HB9.out.frm f5 (fun f => f))
    clear HB9
    have HB9 := HB9n
    clear HB9n
    clear f5
    refine hK.out _ _ (HPT.out _ HF5.out) (fun hHeld => ?_)
    clear hK K
    try simp only [Act.put, zT, zZ, zS]
    iterate 3 (refine ztn (v := ?_) (zo rfl) ?_; try simp only [Act.put, zT, zZ, zS])
    refine zr1 10 (zo rfl) (fun K hK => ?_)
    rw [zl (by rfl)]
    refine wp_store_mid _ _ _ rfl _ 0 #[.int .i64 vi, .int .i64 vc, .int .i64 vm, .int .i64 vt, .float .f64 vs] rfl rfl (HB9.out.there rfl) (by kernel_rfl) (by kernel_rfl) ?_
    have HB10 := zh (jG HB9.out (vs := [.int .i64 vi, .int .i64 vc, .int .i64 vm, .int .i64 vt, .float .f64 vs]) rfl)
    have HF10 := zh ((HF5.out).trans' (jE (wr.drew.heap.size) [.int .i64 vi, .int .i64 vc, .int .i64 vm, .int .i64 vt, .float .f64 vs] 0 (w5)) (fun k hk e => by have := HQ9.out; omega))
    refine hK.out _ _ (HPT.out _ HF10.out) (fun hHeld => ?_)
    clear hK K
    try simp only [Act.put, zT, zZ, zS]
    (refine ztn (v := ?_) (zo rfl) ?_; try simp only [Act.put, zT, zZ, zS])
    refine wpAnyH_done (by kernel_rfl) ?_ _
    exact ⟨rfl, A4, c4, _, rfl, HB10.out, HF10.out, HQ9.out⟩
  rintro e a V ⟨rfl, A4, c4, q5, rfl, hb5, hf5, hq5⟩
  have HB5 := zh hb5
  have HF5 := zh hf5
  have HQ5 := zh hq5
  clear hb5 hf5 hq5 HFI HLE
  rcases HCASE.out with ⟨hno, hfb⟩ | ⟨hso, hfb⟩
  ·subst hfb
   have HE : Hid (M'.abs = promA x k) := zh (by
    rw [HJ.out.eq, promA_none]
    rw [HHA.out, show M'.fs[k].abs.f = M'.fs[k].m.abs from rfl, ← HLF.out]
    exact hno)
   go_wp2_with fail
   exact zi (v := .tuple #[]) (by simp [results, Tryz.results108, go_sem]) rfl ⟨rfl, M', HE.out, HJ.out.at_.fresh HF5.out, HJ.out.ft.trans (FT.of_fresh HF5.out)⟩
  ·subst hfb
   have HFS : Hid (first (leftA (plAt M'.abs k).f) (plAt M'.abs k).q = some ⟨vi, vc, vm, vt, vs⟩) := zh (by
    rw [HHA.out, show M'.fs[k].abs.f = M'.fs[k].m.abs from rfl, ← HLF.out]
    exact hso)
   have hkf : k < M'.abs.fs.length := by show k < (M'.fs.map PlM.abs).length; rw [zB]; exact hlen
   obtain ⟨PK1, PK2⟩ := HJ.out.ok.prom hkf HFS.out
   have hmq : (⟨vi, vc, vm, vt, vs⟩ : Wt) ∈ M'.fs[k].ws := first_mem hso
   obtain ⟨i, hi, hbk, hli, hq1, hq2⟩ := HJ.out.ok.waitAt (abs_mem hlen) (v := ⟨vi, vc, vm, vt, vs⟩) hmq
   dsimp only at hbk hli
   have hil : i < M'.l.length := hi
   have HPK1 := zh PK1
   have HPK2 := zh PK2
   have HBK := zh hbk
   have HBV := zh (HJ.out.at_.fresh HF5.out)
   have HRM := zh (refRemove_any V B qk _ _ vi (HQU.out V HF5.out) (by omega))
   obtain ⟨v0, v1⟩ := HPT.out V HF5.out
   have v2 : V.cell? ⟨q5, 0, none⟩ = some (.int .i64 vi) := HB5.out.cell 0
   clear hso PK1 PK2 hbk hmq hli hq1 hq2 hi
   go_wp2_with fail
   refine HRM.out.mono ?_
   rintro e w6 ⟨rfl, hs6⟩
   have hs6' : StepR V B M'.fs[k].q (remove vi M'.fs[k].ws).2 w6 := by rw [e2]; exact hs6
   obtain ⟨v6, hb6, ft6⟩ := HBV.out.setQ (FT.refl bookT B V) hlen hs6'
   have BP6 := ft6.blk (HJ.out.place.frm HF5.out (fun f => f)) (by decide)
   have BW6 := ft6.blk HB5.out (by decide)
   have HB6 := zh hb6
   have HT6 := zh ft6
   have HBP6 := zh BP6
   have HBW6 := zh BW6
   have hs6l : B ≤ w6.heap.size := by have h1 := HJ.out.ft.size; have h2 := HF5.out.size; have h3 := ft6.size; omega
   have hf6 := (hb6.fl _ (ze (show k < (M'.fs.set k _).length by rw [zz]; exact hlen))).1
   dsimp only at hf6
   rw [zP] at hf6
   dsimp only at hf6
   rw [e1] at hf6
   have HTK := zh (take15_any w6 B fk M'.fs[k].m vi vc vm hf6 hs6l (by omega) HFO.out.few.2 HFO.out.mn HFO.out.cl)
   have p0 : w6.cell? ⟨w.heap.size, 0, none⟩ = some (.pointer (some ⟨fk, 0, none⟩)) := BP6.cell 0
   have p1 : w6.cell? ⟨q5, 0, none⟩ = some (.int .i64 vi) := BW6.cell 0
   have p2 : w6.cell? ⟨q5, 1, none⟩ = some (.int .i64 vc) := BW6.cell 1
   have p3 : w6.cell? ⟨q5, 2, none⟩ = some (.int .i64 vm) := BW6.cell 2
   clear hs6 hs6' hb6 ft6 BP6 BW6 v0 v1 v2 hf6
   go_wp2_with fail
   refine HTK.out.mono ?_
   rintro e w7 ⟨rfl, hs7⟩
   have hlen6 : k < (M'.fs.set k { M'.fs[k] with v := v6, ws := (remove vi M'.fs[k].ws).2 }).length := by rw [zz]; exact hlen
   have hs7' : StepF w6 B ((M'.fs.set k { M'.fs[k] with v := v6, ws := (remove vi M'.fs[k].ws).2 })[k]'hlen6).f ((M'.fs.set k { M'.fs[k] with v := v6, ws := (remove vi M'.fs[k].ws).2 })[k]'hlen6).m (takeA M'.fs[k].m.abs vi vc vm).2 w7 := by
    rw [zP]
    dsimp only
    rw [e1]
    exact hs7
   obtain ⟨m7, hm7, hb7, ft7⟩ := HB6.out.setF (FT.refl bookT B w6) hlen6 hs7'
   have BP7 := ft7.blk HBP6.out (by decide)
   have BW7 := ft7.blk HBW6.out (by decide)
   obtain ⟨M7, hM7⟩ : ∃ z : BkM, z = { M' with fs := (M'.fs.set k { M'.fs[k] with v := v6, ws := (remove vi M'.fs[k].ws).2 }).set k { ((M'.fs.set k { M'.fs[k] with v := v6, ws := (remove vi M'.fs[k].ws).2 })[k]'hlen6) with m := m7 } } := ⟨_, rfl⟩
   have hb7' : BookAt w7 B b M7 := by rw [hM7]; exact hb7
   have hl7 : M7.l = M'.l := by rw [hM7]
   have h7a : M7.abs = { M'.abs with fs := M'.abs.fs.set k ⟨(takeA (plAt M'.abs k).f vi vc vm).2, (remove vi (plAt M'.abs k).q).2⟩ } := by
    rw [hM7, zP, List.set_set, abs_setFs, HHA.out]
    unfold PlM.abs
    dsimp only
    rw [hm7]
   have h7p : ∀ h : k < M7.fs.length, M7.fs[k].f = fk ∧ M7.fs[k].q = qk := by
    rw [hM7]
    intro h
    simp only [zP, List.set_set]
    exact ⟨e1, e2⟩
   have h7l : M7.fs.length = M'.fs.length := by rw [hM7]; simp
   have hil7 : i < M7.l.length := by rw [hl7]; exact hil
   have hx7 : M7.l[i] = M'.l[i] := by simp only [hl7]
   have H7A := zh h7a
   have H7P := zh h7p
   have H7L := zh h7l
   have HL7 := zh hl7
   have HX7 := zh hx7
   obtain ⟨g2, o2, hLA, hg2, hx0, _, _, _, hx4, _⟩ := hb7'.bk hil7
   have hfz : w7.frozen? ⟨g2, o2 + i * 6 + 4, none⟩ = false := by
    have := hb7'.lsl
    rw [hLA] at this
    exact this.frozen _
   have y3 : w7.cell? ⟨b, 3, none⟩ = some (.slice (some ⟨g2, o2, none⟩) M7.l.length M7.lc) := by rw [← hLA]; exact hb7'.blk.cell 3
   have y5 : w7.cell? ⟨q5, 0, none⟩ = some (.int .i64 vi) := BW7.cell 0
   have hbl : M7.l.length ≤ 100 := by rw [hl7]; have := HJ.out.ok.len; have e : M'.abs.l.length = M'.l.length := rfl; omega
   have hbka : jO vi M7.abs = (i : Int) := by rw [← HBK.out, h7a]; rfl
   have HBO : Hid (Calls Tryz.prog 82 #[.pointer (some ⟨b, 0, none⟩), .int .i64 vi] w7.drew fun e w'' => e = .returned (.int .i64 (i : Int)) ∧ w'' = w7.drew) := zh (by rw [← hbka]; exact booking18_any w7.drew B b M7 vi (hb7'.fresh (za _ _).drew) (by omega))
   have HB7 : Hid (BookAt w7.drew B b M7) := zh (hb7'.fresh (za _ _).drew)
   have hgb : g2 ≠ b := by
    obtain ⟨cs, hc, _⟩ := hb7'.lsl.has (k := g2) (by rw [hLA]; rfl)
    exact hc.apart hb7'.blk (by decide)
   have hgq : g2 ≠ q5 := by
    obtain ⟨cs, hc, _⟩ := hb7'.lsl.has (k := g2) (by rw [hLA]; rfl)
    exact hc.apart BW7 (by decide)
   have HBS := zh (HB7.out.setB' hil7 hLA 4 (by omega) (.int .i64 2) { M7.l[i] with st := 2 } rfl)
   have HFTT : Hid (FT bookT B w w7.drew) := zh (((HJ.out.ft.trans (FT.of_fresh HF5.out)).trans (HT6.out.trans ft7)).trans (FT.of_fresh (za _ _).drew))
   have HBP7 : Hid (Blk w7.drew w.heap.size 134 #[.pointer (some ⟨fk, 0, none⟩), .pointer (some ⟨qk, 0, none⟩)]) := zh BP7
   have hz4 : w7.drew.cell? ⟨g2, o2 + i * 6 + 4, none⟩ = some (.int .i64 M7.l[i].st) := hx4
   have hz5 : w7.drew.frozen? ⟨g2, o2 + i * 6 + 4, none⟩ = false := hfz
   have i0 : (0 : Int) ≤ (i : Int) := by omega
   have i1 : (i : Int) < (M7.l.length : Int) := by omega
   generalize M7.l.length = l7 at y3 i1 hbl
   generalize M7.lc = lc7 at y3
   clear hs7 hs7' hb7 ft7 BP7 BW7 hM7 hb7' hl7 h7a h7p h7l hx0 hx4 hfz hm7 hbka p0 p1 p2 p3
   go_wp2_with fail
   refine zj (S := (fun w' => w'.cell? ⟨b, 3, none⟩ = some (.slice (some ⟨g2, o2, none⟩) l7 lc7) ∧ w'.cell? ⟨q5, 0, none⟩ = some (.int .i64 vi))) (by kernel_rfl) (⟨y3, y5⟩) (fun hHeld => ?_)
   iterate 7 ((first | refine ztn (v := ?_) (zo rfl) ?_ | refine ztz (v := ?_) (zo rfl) ?_); try simp only [Act.put, zT, zZ, zS])
   refine zr1 7 (zo rfl) (fun K hK => ?_)
   go_simp
   refine (HBO.out).mono ?_
   rintro e w8 ⟨rfl, hw8⟩
   rw [hw8]
   clear hw8 w8
   refine hK.out _ _ (⟨y3, y5⟩) (fun hHeld => ?_)
   clear hK K
   try simp only [Act.put, zT, zZ, zS]
   iterate 2 (refine ztn (v := ?_) (zo rfl) ?_; try simp only [Act.put, zT, zZ, zS])
   refine zr1 10 (zo rfl) (fun K hK => ?_)
   go_simp
   refine hK.out _ _ (⟨(World.cell?_setCell_far _ _ _ _ hgb).trans y3, (World.cell?_setCell_far _ _ _ _ hgq).trans y5⟩) (fun hHeld => ?_)
   clear hK K
   try simp only [Act.put, zT, zZ, zS]
   refine wpAnyH_done (by kernel_rfl) ?_ _
   obtain ⟨hb8, ft8⟩ := HBS.out
   have hpl8 := ft8.blk HBP7.out (by decide)
   have h8a : ({ M7 with l := M7.l.set i { M7.l[i] with st := 2 } } : BkM).abs = jS M'.abs k ⟨vi, vc, vm, vt, vs⟩ := by
    unfold jS setSt
    rw [HBK.out, zx]
    have e0 : ({ M7 with l := M7.l.set i { M7.l[i] with st := 2 } } : BkM).abs = { M7.abs with l := M7.l.set i { M7.l[i] with st := 2 } } := rfl
    rw [e0, H7A.out, HX7.out]
    simp only [HL7.out]
    rw [getD_get (show i < M'.abs.l.length from hil)]
    rfl
   have h8l : k < M7.fs.length := by rw [H7L.out]; exact hlen
   go_roundw
   case rel =>
    have hpj : PJ w B b n k fk qk M.l.length x { M7 with l := M7.l.set i { M7.l[i] with st := 2 } } (w7.drew.setCell ⟨g2, o2 + i * 6 + 4, none⟩ (.int .i64 2)) := ⟨hb8, by rw [h8a]; exact HPK1.out, h8l, H7P.out h8l, by rw [h8a, HJ.out.eq, promA_some HJ.out.ok hkf HFS.out], HFTT.out.trans ft8, hpl8⟩
    exact ⟨_, _, _, _, _, _, _, _, _, _, _, _, _, _, _, _, _, _, _, _, _, _, _, _, _, _, _, _, _, _, _, _, _, _, _, _, _, ⟨_, hpj⟩, rfl⟩
   case measure =>
    have hq8 := hb8.qu _ (ze h8l)
    rw [(H7P.out h8l).2] at hq8
    rw [qLen_of (HQU.out wr (za _ _))]
    refine Nat.lt_of_le_of_lt (Nat.le_of_eq (qLen_of hq8)) ?_
    have h1 := HPK2.out
    rw [← h8a, abs_at (M := { M7 with l := M7.l.set i { M7.l[i] with st := 2 } }) h8l, HHA.out] at h1
    have h2 : ({ M7 with l := M7.l.set i { M7.l[i] with st := 2 } } : BkM).fs[k].abs.q = M7.fs[k].ws := rfl
    have h3 : M'.fs[k].abs.q = M'.fs[k].ws := rfl
    rw [h2, h3] at h1
    omega
end
section
open QueueM
theorem BookOk.more {n n' : Nat} {x : Book} (h : BookOk n x) (hn : n ≤ n') : BookOk n' x :=
 ⟨h.few, h.fl, h.nums, zp h.things hn, zp h.len hn, ⟨h.next.1, by have := h.next.2; omega⟩, h.now, h.ids, h.bk, h.wait⟩
theorem flightA_at {x : Book} {m : Int} (h : 0 ≤ qL m x) : ∃ (k : Nat) (hk : k < x.fs.length), qL m x = (k : Int) ∧ x.fs[k].f.num = m := by
 unfold qL at h ⊢
 rcases jY (fun p : Pl => p.f.num) m x.fs 0 with ⟨h1, _⟩ | ⟨k, h1, h2, h3⟩
 ·rw [h1] at h; exact absurd h (by decide)
 ·exact ⟨k, h1, by rw [h2]; simp, h3⟩
theorem BookOk.kAt {n : Nat} {x : Book} (h : BookOk n x) {i : Nat} (hi : i < x.l.length) : ∃ (k : Nat) (hk : k < x.fs.length), qL x.l[i].fl x = (k : Int) ∧ x.fs[k].f.num = x.l[i].fl := by
 obtain ⟨k, h1, _⟩ := h.flight (ze hi)
 exact flightA_at (by omega)
theorem cutAt_ids {l : List Bk} (h : (l.map (·.id)).Nodup) (i : Nat) : ((cutAt l i).map (·.id)).Nodup := ((cutAt_sub l i).map _).nodup h
theorem cutAt_length {α : Type} {l : List α} {i : Nat} (h : i < l.length) : (cutAt l i).length + 1 = l.length := by have := cutAt_len h; omega
theorem BookOk.release {n : Nat} {x : Book} (h : BookOk n x) {i : Nat} (hi : i < x.l.length) (hst : x.l[i].st = 1) : BookOk n (release x i (bkAt x i)) ∧ (release x i (bkAt x i)).fs.length = x.fs.length ∧ (release x i (bkAt x i)).l.length + 1 = x.l.length := by
 obtain ⟨k, hk, e1, e2⟩ := h.kAt hi
 refine ⟨?_, by unfold Go.Proofs.YtnmokpbomeamfaaGreat.release; simp, by unfold Go.Proofs.YtnmokpbomeamfaaGreat.release; exact cutAt_length hi⟩
 unfold Go.Proofs.YtnmokpbomeamfaaGreat.release
 rw [bkAt_get hi, e1, zx, jP hk]
 obtain ⟨hfo, hgo⟩ := h.fl _ (ze hk)
 have hgl := giveA_len x.fs[k].f x.l[i].id
 refine h.setK hk (n' := n) (next' := x.next) ⟨FlOk.give hfo _, hgo⟩ hgl.2.1 (by dsimp only; have := hgl.1; omega) (by have := cutAt_length hi; have := h.len; omega) h.next (cutAt_ids h.ids i) (fun y hy => h.bk y (cutAt_mem hy)) ?_ ?_
 ·intro v hv
  obtain ⟨y, hy, f1, f2, f3⟩ := h.wait _ (ze hk) v hv
  exact ⟨y, mem_cutAt hi hy (fun e => by rw [e, hst] at f3; exact absurd f3 (by decide)), f1, f2, f3⟩
 ·intro j hj hjk v hv
  obtain ⟨y, hy, f1, f2, f3⟩ := h.wait _ (ze hj) v hv
  exact ⟨y, mem_cutAt hi hy (fun e => by rw [e, hst] at f3; exact absurd f3 (by decide)), f1, f2, f3⟩
theorem BookOk.clockF {n : Nat} : ∀ (m : Nat) (x : Book) (i : Nat), BookOk n x → i + m = x.l.length → BookOk n (clockF m x i) ∧ (Go.Proofs.YtnmokpbomeamfaaGreat.clockF m x i).fs.length = x.fs.length
 | 0, x, i, h, _ => ⟨h, rfl⟩
 | m + 1, x, i, h, hi => by
  rw [Go.Proofs.YtnmokpbomeamfaaGreat.clockF]
  have hil : i < x.l.length := by omega
  split
  ·rename_i hc
   rw [bkAt_get hil] at hc
   obtain ⟨h1, h2, h3⟩ := h.release hil hc.1
   obtain ⟨a, b⟩ := BookOk.clockF m _ i h1 (by omega)
   exact ⟨a, by rw [b, h2]⟩
  ·exact BookOk.clockF m x (i + 1) h (by omega)
theorem BookOk.now' {n : Nat} {x : Book} (h : BookOk n x) {t : Int} (ht : 0 ≤ t ∧ t ≤ 1099511627776) : BookOk n { x with now := t } := ⟨h.few, h.fl, h.nums, h.things, h.len, h.next, ht, h.ids, h.bk, h.wait⟩
theorem BookOk.clockA {n : Nat} {x : Book} (h : BookOk n x) {t : Int} (ht : 0 ≤ t ∧ t ≤ 1099511627776) : BookOk n (clockA x t).1 := by
 unfold Go.Proofs.YtnmokpbomeamfaaGreat.clockA
 split
 ·exact h
 ·obtain ⟨a, b⟩ := BookOk.clockF x.l.length { x with now := t } 0 (h.now' ht) (by simp)
  exact BookOk.promAllF _ _ _ a (by rw [b]; simp)
theorem ids_snoc {n : Nat} {x : Book} (h : BookOk n x) (y : Bk) (hy : y.id = x.next) : ((x.l ++ [y]).map (·.id)).Nodup := by
 rw [zn, List.nodup_append]
 refine ⟨h.ids, by simp, fun a ha b hb => ?_⟩
 obtain ⟨z, hz, rfl⟩ := zQ.1 ha
 simp at hb
 rw [hb, hy]
 have := (h.bk z hz).1.2
 omega
theorem BookOk.held {n : Nat} {x : Book} (h : BookOk n x) {c : Cm} (hc : CmB c) {k : Nat} (hk : k < x.fs.length) (e1 : qL c.fl x = (k : Int)) : BookOk (n + 1) (held x k c) := by
 obtain ⟨k', hk', e2, e3⟩ := flightA_at (x := x) (m := c.fl) (by omega)
 obtain rfl : k = k' := by omega
 unfold Go.Proofs.YtnmokpbomeamfaaGreat.held
 rw [jP hk]
 obtain ⟨hfo, hgo⟩ := h.fl _ (ze hk)
 have htl := takeA_len x.fs[k].f x.next c.cl c.mn
 have hnx := h.next
 refine h.setK hk (n' := n + 1) (next' := x.next + 1) ⟨FlOk.take hfo _ _ _, hgo⟩ htl.2.1 (by dsimp only; have := htl.1; omega) (by rw [zg]; have := h.len; simp; omega) (by omega) (ids_snoc h _ rfl) ?_ ?_ ?_
 ·intro y hy
  rcases zy.1 hy with hy | hy
  ·obtain ⟨a1, a2⟩ := h.bk y hy
   exact ⟨by omega, a2⟩
  ·simp at hy
   subst hy
   exact ⟨by dsimp only; omega, hc.fl, hc.cl, hc.mn, by dsimp only; omega, hc.tm, _, ze hk, e3⟩
 ·intro v hv
  obtain ⟨y, hy, f⟩ := h.wait _ (ze hk) v hv
  exact ⟨y, zy.2 (.inl hy), f⟩
 ·intro j hj hjk v hv
  obtain ⟨y, hy, f⟩ := h.wait _ (ze hj) v hv
  exact ⟨y, zy.2 (.inl hy), f⟩
theorem BookOk.waits {n : Nat} {x : Book} (h : BookOk n x) {c : Cm} (hc : CmB c) {k : Nat} (hk : k < x.fs.length) (e1 : qL c.fl x = (k : Int)) (ha : (add (wtOf x c) (plAt x k).q).1 = 0) : BookOk (n + 1) (waits x k c) := by
 obtain ⟨k', hk', e2, e3⟩ := flightA_at (x := x) (m := c.fl) (by omega)
 obtain rfl : k = k' := by omega
 unfold Go.Proofs.YtnmokpbomeamfaaGreat.waits
 rw [jP hk] at ha ⊢
 obtain ⟨hfo, hgo⟩ := h.fl _ (ze hk)
 have hnx := h.next
 have hadd : (add (wtOf x c) x.fs[k].q).2 = ins (wtOf x c) x.fs[k].q := by
  unfold add at ha ⊢
  split
  ·rename_i h1
   rw [zl h1] at ha
   split
   ·rename_i h2
    rw [zl h2] at ha
    exact absurd ha (by simp)
   ·rename_i h2
    rw [zk h2] at ha
    split
    ·rename_i h3
     rw [zl h3] at ha
     exact absurd ha (by simp)
    ·rfl
  ·rename_i h1
   rw [zk h1] at ha
   exact absurd ha (by simp)
 refine h.setK hk (n' := n + 1) (next' := x.next + 1) ⟨hfo, hgo.add _⟩ rfl (by dsimp only; rw [hadd, ins_length]; omega) (by rw [zg]; have := h.len; simp; omega) (by omega) (ids_snoc h _ rfl) ?_ ?_ ?_
 ·intro y hy
  rcases zy.1 hy with hy | hy
  ·obtain ⟨a1, a2⟩ := h.bk y hy
   exact ⟨by omega, a2⟩
  ·simp at hy
   subst hy
   exact ⟨by dsimp only; omega, hc.fl, hc.cl, hc.mn, by dsimp only; omega, by dsimp only; omega, _, ze hk, e3⟩
 ·intro v hv
  dsimp only at hv
  rw [hadd, mem_ins] at hv
  rcases hv with rfl | hv
  ·exact ⟨⟨x.next, c.fl, c.cl, c.mn, 3, 0⟩, zy.2 (.inr (by simp)), rfl, e3.symm, rfl⟩
  ·obtain ⟨y, hy, f⟩ := h.wait _ (ze hk) v hv
   exact ⟨y, zy.2 (.inl hy), f⟩
 ·intro j hj hjk v hv
  obtain ⟨y, hy, f⟩ := h.wait _ (ze hj) v hv
  exact ⟨y, zy.2 (.inl hy), f⟩
theorem BookOk.setFl {n : Nat} {x : Book} (h : BookOk n x) {k : Nat} (hk : k < x.fs.length) {m : Fl} (hm : FlOk m) (hl : m.hs.length = x.fs[k].f.hs.length) (hn : m.num = x.fs[k].f.num) : BookOk n (setFl x k m) := by
 unfold Go.Proofs.YtnmokpbomeamfaaGreat.setFl
 rw [jP hk]
 obtain ⟨hfo, hgo⟩ := h.fl _ (ze hk)
 refine h.setK hk (n' := n) (next' := x.next) (l' := x.l) ⟨hm, hgo⟩ hn (by dsimp only; omega) h.len h.next h.ids h.bk ?_ ?_
 ·exact fun v hv => h.wait _ (ze hk) v hv
 ·exact fun j hj hjk v hv => h.wait _ (ze hj) v hv
theorem set_self {x : Book} {k : Nat} (hk : k < x.fs.length) : x.fs.set k x.fs[k] = x.fs := by
 apply List.ext_getElem
 ·simp
 ·intro i h1 h2
  rw [List.getElem_set]
  split
  ·rename_i e; subst e; rfl
  ·rfl
theorem BookOk.setL' {n : Nat} {x : Book} (h : BookOk n x) {l' : List Bk} (hlen : l'.length ≤ n) (hids : (l'.map (·.id)).Nodup)
 (hbk : ∀ y ∈ l', (1 ≤ y.id ∧ y.id < x.next) ∧ (0 ≤ y.fl ∧ y.fl ≤ 9999) ∧ (0 ≤ y.cl ∧ y.cl ≤ 9999) ∧ (0 ≤ y.mn ∧ y.mn ≤ 9999) ∧ (1 ≤ y.st ∧ y.st ≤ 3) ∧ (0 ≤ y.un ∧ y.un ≤ 1099511627776) ∧ ∃ p ∈ x.fs, p.f.num = y.fl)
 (hw : ∀ p ∈ x.fs, ∀ v ∈ p.q, ∃ y ∈ l', y.id = v.id ∧ y.fl = p.f.num ∧ y.st = 3) : BookOk n { x with l := l' } := ⟨h.few, h.fl, h.nums, h.things, hlen, h.next, h.now, hids, hbk, hw⟩
theorem setStUn {l : List Bk} {i : Nat} (hi : i < l.length) (s u : Int) : setUn (setSt l i s) i u = l.set i { l[i] with st := s, un := u } := by
 unfold setUn setSt
 rw [getD_get hi, getD_get (by rw [zz]; exact hi), zP, List.set_set]
theorem BookOk.confirmed {n : Nat} {x : Book} (h : BookOk n x) {i : Nat} (hi : i < x.l.length) (hst : x.l[i].st = 1) : BookOk n (confirmed x i) := by
 unfold Go.Proofs.YtnmokpbomeamfaaGreat.confirmed
 rw [setStUn hi]
 refine h.setL' (by rw [zz]; exact h.len) ?_ ?_ ?_
 ·rw [List.map_set]
  have : (x.l.map (·.id)).set i x.l[i].id = x.l.map (·.id) := by
   apply List.ext_getElem
   ·simp
   ·intro j h1 h2
    rw [List.getElem_set]
    split
    ·rename_i e; subst e; simp
    ·rfl
  dsimp only
  rw [this]
  exact h.ids
 ·intro y hy
  rcases List.mem_or_eq_of_mem_set hy with hy | rfl
  ·exact h.bk y hy
  ·obtain ⟨a1, a2, a3, a4, a5, a6, a7⟩ := h.bk _ (ze hi)
   exact ⟨a1, a2, a3, a4, by dsimp only; omega, by dsimp only; omega, a7⟩
 ·intro p hp v hv
  obtain ⟨y, hy, f1, f2, f3⟩ := h.wait p hp v hv
  exact ⟨y, mem_set_ne hi hy (fun e => by rw [e, hst] at f3; exact absurd f3 (by decide)), f1, f2, f3⟩
theorem BookOk.cancelled {n : Nat} {x : Book} (h : BookOk n x) {i : Nat} (hi : i < x.l.length) : BookOk n (cancelled x i) ∧ (cancelled x i).fs.length = x.fs.length ∧ kOf x i < x.fs.length := by
 obtain ⟨k, hk, e1, e2⟩ := h.kAt hi
 have hke : kOf x i = k := by unfold kOf; rw [bkAt_get hi, e1]; rfl
 obtain ⟨hfo, hgo⟩ := h.fl _ (ze hk)
 refine ⟨?_, ?_, by rw [hke]; exact hk⟩
 ·unfold Go.Proofs.YtnmokpbomeamfaaGreat.cancelled
  rw [hke, bkAt_get hi]
  split
  ·rename_i hst
   unfold setQu
   rw [jP hk]
   have hll : (remove x.l[i].id x.fs[k].q).2.length ≤ x.fs[k].q.length := by
    unfold remove
    split
    ·exact (del_sub _ _).length_le
    ·exact zf _
   refine h.setK hk (n' := n) (next' := x.next) ⟨hfo, hgo.remove _⟩ rfl (by dsimp only; omega) (by have := cutAt_length hi; have := h.len; omega) h.next (cutAt_ids h.ids i) (fun y hy => h.bk y (cutAt_mem hy)) ?_ ?_
   ·intro v hv
    dsimp only at hv
    have hv2 : v ∈ x.fs[k].q ∧ v.id ≠ x.l[i].id := by
     unfold remove at hv
     split at hv
     ·exact (mem_del hgo.once).1 hv
     ·rename_i hno
      exact ⟨hv, fun e => hno (has_iff.2 ⟨v, hv, e⟩)⟩
    obtain ⟨y, hy, f1, f2, f3⟩ := h.wait _ (ze hk) v hv2.1
    exact ⟨y, mem_cutAt hi hy (fun e => hv2.2 (by rw [← f1, e])), f1, f2, f3⟩
   ·intro j hj hjk v hv
    obtain ⟨y, hy, f1, f2, f3⟩ := h.wait _ (ze hj) v hv
    refine ⟨y, mem_cutAt hi hy (fun e => hjk (nums_inj h.nums hj hk ?_)), f1, f2, f3⟩
    rw [← f2, e, e2]
  ·rename_i hst
   unfold Go.Proofs.YtnmokpbomeamfaaGreat.setFl
   rw [jP hk]
   have hgl := giveA_len x.fs[k].f x.l[i].id
   refine h.setK hk (n' := n) (next' := x.next) ⟨FlOk.give hfo _, hgo⟩ hgl.2.1 (by dsimp only; have := hgl.1; omega) (by have := cutAt_length hi; have := h.len; omega) h.next (cutAt_ids h.ids i) (fun y hy => h.bk y (cutAt_mem hy)) ?_ ?_
   ·intro v hv
    obtain ⟨y, hy, f1, f2, f3⟩ := h.wait _ (ze hk) v hv
    exact ⟨y, mem_cutAt hi hy (fun e => hst (by rw [← e]; exact f3)), f1, f2, f3⟩
   ·intro j hj hjk v hv
    obtain ⟨y, hy, f1, f2, f3⟩ := h.wait _ (ze hj) v hv
    exact ⟨y, mem_cutAt hi hy (fun e => hst (by rw [← e]; exact f3)), f1, f2, f3⟩
 ·unfold Go.Proofs.YtnmokpbomeamfaaGreat.cancelled
  split
  ·unfold setQu; simp
  ·unfold Go.Proofs.YtnmokpbomeamfaaGreat.setFl; simp
theorem BookOk.opened {n : Nat} {x : Book} (h : BookOk n x) {c : Cm} (h0 : ¬ 0 ≤ qL c.fl x) (h8 : ¬ 8 ≤ x.fs.length) (hn : ¬ (newA c.fl c.rows c.gs c.ps).1 ≠ 0) :
 BookOk n { x with fs := x.fs.take (atNum c.fl x.fs) ++ [⟨(newA c.fl c.rows c.gs c.ps).2, []⟩] ++ x.fs.drop (atNum c.fl x.fs) } := by
 obtain ⟨hfo, hnum, hhs⟩ := newA_ok hn
 generalize newA c.fl c.rows c.gs c.ps = r at hfo hnum hhs
 generalize atNum c.fl x.fs = a
 have hne : ∀ p ∈ x.fs, p.f.num ≠ c.fl := by
  unfold qL at h0
  rcases jY (fun p : Pl => p.f.num) c.fl x.fs 0 with ⟨_, h2⟩ | ⟨k, h1, h2, _⟩
  ·exact h2
  ·exact absurd (by rw [h2]; simp) h0
 have hmem : ∀ p, p ∈ x.fs.take a ++ [(⟨r.2, []⟩ : Pl)] ++ x.fs.drop a ↔ p = (⟨r.2, []⟩ : Pl) ∨ p ∈ x.fs := by
  intro p
  have e : p ∈ x.fs ↔ p ∈ x.fs.take a ∨ p ∈ x.fs.drop a := by
   rw [← zy, List.take_append_drop]
  rw [e]
  simp only [zy, zO]
  constructor
  ·rintro ((h | h) | h)
   ·exact .inr (.inl h)
   ·exact .inl h
   ·exact .inr (.inr h)
  ·rintro (h | h | h)
   ·exact .inl (.inr h)
   ·exact .inl (.inl h)
   ·exact .inr h
 have hperm : (x.fs.take a ++ [(⟨r.2, []⟩ : Pl)] ++ x.fs.drop a).Perm ((⟨r.2, []⟩ : Pl) :: x.fs) := by
  have h1 : (x.fs.take a ++ [(⟨r.2, []⟩ : Pl)]).Perm ((⟨r.2, []⟩ : Pl) :: x.fs.take a) := List.perm_append_comm
  have h2 := h1.append_right (x.fs.drop a)
  rw [List.cons_append, List.take_append_drop] at h2
  exact h2
 refine ⟨?_, ?_, ?_, ?_, h.len, h.next, h.now, h.ids, ?_, ?_⟩
 ·show (x.fs.take a ++ [(⟨r.2, []⟩ : Pl)] ++ x.fs.drop a).length ≤ 8
  rw [hperm.length_eq, zG]
  omega
 ·intro p hp
  rcases (hmem p).1 hp with rfl | hp
  ·exact ⟨hfo, Good.nil⟩
  ·exact h.fl p hp
 ·show ((x.fs.take a ++ [(⟨r.2, []⟩ : Pl)] ++ x.fs.drop a).map (fun p : Pl => p.f.num)).Nodup
  rw [(hperm.map _).nodup_iff, zW, List.nodup_cons]
  refine ⟨fun hm => ?_, h.nums⟩
  obtain ⟨p, hp, he⟩ := zQ.1 hm
  exact hne p hp (by rw [he]; exact hnum)
 ·show ((x.fs.take a ++ [(⟨r.2, []⟩ : Pl)] ++ x.fs.drop a).map (fun p : Pl => p.f.hs.length + p.q.length)).sum ≤ n
  rw [(hperm.map _).sum_nat, zW, List.sum_cons]
  have := h.things
  dsimp only
  rw [hhs]
  simpa using this
 ·intro y hy
  obtain ⟨a1, a2, a3, a4, a5, a6, p, hp, he⟩ := h.bk y hy
  exact ⟨a1, a2, a3, a4, a5, a6, p, (hmem p).2 (.inr hp), he⟩
 ·intro p hp v hv
  rcases (hmem p).1 hp with rfl | hp
  ·cases hv
  ·exact h.wait p hp v hv
theorem namedA_at {x : Book} {b : List UInt8} (h : (jT x b).2 = 0) : ∃ i : Nat, (jT x b).1 = (i : Int) ∧ i < x.l.length := by
 unfold jT at h ⊢
 by_cases h1 : (readP b).2 ≠ 0
 ·rw [zl h1] at h
  exact absurd h h1
 ·rw [zk h1] at h ⊢
  by_cases h2 : jO (readP b).1 x < 0
  ·rw [zl h2] at h
   exact absurd h (by decide)
  ·rw [zk h2]
   unfold jO at h2 ⊢
   rcases jY (fun p : Bk => p.id) (readP b).1 x.l 0 with ⟨h3, _⟩ | ⟨k, h3, h4, _⟩
   ·exact absurd h2 (by rw [h3]; decide)
   ·exact ⟨k, by dsimp only; rw [h4]; simp, h3⟩
theorem BookOk.oneA {n : Nat} {x : Book} (h : BookOk n x) {i : Nat} (hi : i < x.l.length) (c : Cm) : BookOk n (oneA x i c).1 := by
 obtain ⟨k, hk, e1, e2⟩ := h.kAt hi
 have hke : kOf x i = k := by unfold kOf; rw [bkAt_get hi, e1]; rfl
 obtain ⟨hfo, hgo⟩ := h.fl _ (ze hk)
 unfold Go.Proofs.YtnmokpbomeamfaaGreat.oneA
 split
 ·split
  ·exact h
  ·rename_i hst
   exact h.confirmed hi (by rw [bkAt_get hi] at hst; exact Classical.not_not.1 hst)
 ·split
  ·obtain ⟨a, b, c⟩ := h.cancelled hi
   exact (a.promA (by rw [b]; exact c)).1
  ·split
   ·exact h
   ·split
    ·split
     ·exact h
     ·rw [hke, jP hk]
      exact h.setFl hk (hfo.seat _ _) (seatA_len _ _ _).1 (seatA_len _ _ _).2
    ·split
     ·exact h
     ·rw [hke, jP hk]
      exact h.setFl hk (hfo.auto _) (autoA_len _ _).1 (autoA_len _ _).2
theorem BookOk.applyA {n : Nat} {x : Book} (h : BookOk n x) {c : Cm} (hc : CmB c) : BookOk (n + 1) (applyA x c).1 := by
 have h1 := h.more (Nat.le_succ n)
 unfold Go.Proofs.YtnmokpbomeamfaaGreat.applyA
 split
 ·unfold openA
  split
  ·exact h1
  ·rename_i h0
   split
   ·exact h1
   ·rename_i h8
    split
    ·exact h1
    ·rename_i hn
     exact (h.opened h0 h8 hn).more (Nat.le_succ n)
 ·split
  ·unfold holdA
   split
   ·exact h1
   ·rename_i h0
    split
    ·exact h1
    ·split
     ·exact h1
     ·split
      ·exact h1
      ·obtain ⟨k, hk, e1, _⟩ := flightA_at (x := x) (m := c.fl) (by omega)
       rw [e1, zx]
       exact h.held hc hk e1
  ·split
   ·unfold waitA
    split
    ·exact h1
    ·rename_i h0
     split
     ·exact h1
     ·split
      ·exact h1
      ·split
       ·exact h1
       ·rename_i ha
        obtain ⟨k, hk, e1, _⟩ := flightA_at (x := x) (m := c.fl) (by omega)
        rw [e1, zx] at ha ⊢
        have hw := h.waits hc hk e1 (Classical.not_not.1 ha)
        exact (hw.promA (k := k) (by unfold Go.Proofs.YtnmokpbomeamfaaGreat.waits; simpa using hk)).1
   ·split
    ·exact (h.clockA hc.tm).more (Nat.le_succ n)
    ·split
     ·exact h1
     ·split
      ·exact h1
      ·rename_i hn
       obtain ⟨i, e1, e2⟩ := namedA_at (Classical.not_not.1 hn)
       rw [e1, zx]
       exact (h.oneA e2 c).more (Nat.le_succ n)
end
section
open Go.RowKit QueueM
theorem BookAt.far {w w' : World} {B b q : Nat} {M : BkM} {cs : Array Value} (h : BookAt w B b M) (F : Frm (fun k => k = q) w w') (hq : Blk w q 106 cs) : BookAt w' B b M := by
 refine ⟨h.blk.frm F (h.blk.apart hq (by decide)), h.ge, h.fsl.frm F (fun k hk e => by subst e; exact h.fsl.apart hq (by decide) hk), h.lsl.frm F (fun k hk e => by subst e; exact h.lsl.apart hq (by decide) hk), ?_, ?_, h.ap⟩
 ·intro p hp
  obtain ⟨h1, h2⟩ := h.fl p hp
  refine ⟨h1.frm F (fun e => ?_) (fun k hk e => ?_) (fun k cs hk e => ?_), h2⟩
  ·exact h1.blk.apart hq (by decide) e
  ·subst e
   obtain ⟨cs, hc, _⟩ := h1.hasH hk
   exact hc.apart hq (by decide) rfl
  ·subst e
   exact hk.apart hq (by decide) rfl
 ·intro p hp
  have h1 := h.qu p hp
  exact h1.frm F (fun e => h1.blk.apart hq (by decide) e) (fun k hk e => by subst e; exact h1.sl.apart hq (by decide) hk)
def jN (w : World) (B b : Nat) (r : Book × Rep) (e : Ending) (w' : World) : Prop := ∃ v, e = .returned v ∧ RepV w' w.heap.size v r.2 ∧ StepB w B b r.1 w'
theorem app_end {w X : World} {B b B' : Nat} {x : Book} {zs : List Value} {r : Rep} {cs : Array Value} (hp : Blk X (w.heap.size + 1) 106 cs) (hcs : cs.size = 9) (hs : StepB w B b x X) (hz : RepZ X B' zs r) (hB : w.heap.size ≤ B') :
 Blk (X.setCells (w.heap.size + 1) 0 zs) (w.heap.size + 1) 106 zs.toArray ∧ RepZ (X.setCells (w.heap.size + 1) 0 zs) w.heap.size zs r ∧ StepB w B b x (X.setCells (w.heap.size + 1) 0 zs) := by
 obtain ⟨h1, h2, h3⟩ := hz.lay hp hcs
 obtain ⟨M', e, h4, h5⟩ := hs
 exact ⟨h1, h2.less hB, M', e, h4.far h3 hp, Frm.trans' h5 h3 (fun k hk e => by omega)⟩
theorem jZ {X : World} {B' q : Nat} {zs : List Value} {r : Rep} {cs : Array Value} (hp : Blk X q 106 cs) (hcs : cs.size = 9) (hz : RepZ X B' zs r) : X.there q 0 zs.toArray.size := hp.there (by rw [hcs]; simp [hz.len])
structure Mid (w X : World) (cz : List Value) (B b n : Nat) (M : BkM) : Prop where
 cmd : Blk X w.heap.size 95 cz.toArray
 rep : Blk X (w.heap.size + 1) 106 rz.toArray
 ft : FT bookT B w X
 at_ : BookAt X B b M
 ok : BookOk n M.abs
theorem Mid.of {w W : World} {cz : List Value} {B b n : Nat} {M : BkM} (hp : Pre w W cz) (h : BookAt w B b M) (hk : BookOk n M.abs) : Mid w W cz B b n M := ⟨hp.cmd, hp.rep, FT.of_fresh hp.frm, h.fresh hp.frm, hk⟩
theorem Mid.fresh {w X X' : World} {cz : List Value} {B b n : Nat} {M : BkM} (h : Mid w X cz B b n M) (F : Fresh X X') : Mid w X' cz B b n M := ⟨h.cmd.frm F (fun f => f), h.rep.frm F (fun f => f), h.ft.trans (FT.of_fresh F), h.at_.fresh F, h.ok⟩
theorem Mid.step {w X X' : World} {cz : List Value} {B b n n' : Nat} {M M' : BkM} (h : Mid w X cz B b n M) (F : FT bookT B X X') (hb : BookAt X' B b M') (hk : BookOk n' M'.abs) : Mid w X' cz B b n' M' := ⟨F.blk h.cmd (by decide), F.blk h.rep (by decide), h.ft.trans F, hb, hk⟩
theorem Mid.stepB {w X X' : World} {cz : List Value} {B b n n' : Nat} {M : BkM} {x : Book} (h : Mid w X cz B b n M) (hs : StepB X B b x X') (hk : BookOk n' x) : ∃ M', M'.abs = x ∧ Mid w X' cz B b n' M' := by
 obtain ⟨M', e, hb, F⟩ := hs
 exact ⟨M', e, h.step F hb (by rw [e]; exact hk)⟩
theorem Mid.out {w X : World} {cz : List Value} {B b n : Nat} {M : BkM} (h : Mid w X cz B b n M) : StepB w B b M.abs X := ⟨M, rfl, h.at_, h.ft⟩
theorem Mid.end_ {w X : World} {cz : List Value} {B b n B' : Nat} {M : BkM} {zs : List Value} {r : Rep} (h : Mid w X cz B b n M) (hz : RepZ X B' zs r) (hB : w.heap.size ≤ B') :
 Blk (X.setCells (w.heap.size + 1) 0 zs) (w.heap.size + 1) 106 zs.toArray ∧ RepZ (X.setCells (w.heap.size + 1) 0 zs) w.heap.size zs r ∧ StepB w B b M.abs (X.setCells (w.heap.size + 1) 0 zs) := app_end h.rep rfl h.out hz hB
theorem Mid.there {w X : World} {cz : List Value} {B b n B' : Nat} {M : BkM} {zs : List Value} {r : Rep} (h : Mid w X cz B b n M) (hz : RepZ X B' zs r) : X.there (w.heap.size + 1) 0 zs.toArray.size := jZ h.rep rfl hz
theorem Mid.size {w X : World} {cz : List Value} {B b n : Nat} {M : BkM} (h : Mid w X cz B b n M) : w.heap.size + 1 < X.heap.size := h.rep.lt
def bLen (w : World) (b : Nat) : Nat := match w.cell? ⟨b, 3, none⟩ with
 | some (.slice _ n _) => n
 | _ => 0
theorem bLen_of {w : World} {B b : Nat} {M : BkM} (h : BookAt w B b M) : bLen w b = M.l.length := by
 have hc : w.cell? ⟨b, 3, none⟩ = some (.slice M.LA M.l.length M.lc) := h.blk.cell 3
 unfold bLen
 rw [hc]
theorem jJ (M : BkM) : M.abs.fs.length = M.fs.length := by show (M.fs.map PlM.abs).length = _; rw [zB]
theorem StepF.keep {w w' : World} {B f : Nat} {m : FlM} {m' : Fl} (h : FlAt w B f m) (hs : StepF w B f m m' w') {g : Nat} {t : TypeId} {cs : Array Value} (hb : Blk w g t cs) (h1 : t ≠ 152) (h2 : t ≠ 167) : Blk w' g t cs := by
 obtain ⟨_, _, _, F, _⟩ := hs
 refine hb.frm F ?_
 rintro (e | e)
 ·subst e
  exact hb.apart h.blk h1 rfl
 ·obtain ⟨cs', hc, _⟩ := h.hasH e
  exact hb.apart hc h2 rfl
end
section
open Go.RowKit
def thrown : List PanicEntry := [{ v := .iface 181 (.agg #[]), recovered := false }]
theorem must_yes (w : World) : Calls Tryz.prog 95 #[.bool true] w fun e w' => e = .returned (.tuple #[]) ∧ w' = w := by
 go_in
 go_wp2_with fail
 go_end0
 exact ⟨rfl, rfl⟩
theorem must_no (w : World) : Calls Tryz.prog 95 #[.bool false] w fun e w' => e = .panicked thrown ∧ w' = w := by
 go_in
 go_wp2_with fail
 exact ⟨rfl, rfl, rfl⟩
structure Lft (w : World) (B g : Nat) (A : Option Addr) (cap : Nat) (bs : List UInt8) : Prop where
 box : Blk w g 39 #[.slice A bs.length cap]
 rd : Rd w B A (bs.map bv)
 le : bs.length ≤ cap
 most : cap ≤ maxLen
 hB : B ≤ g
theorem Lft.frm {w w' : World} {B g : Nat} {A : Option Addr} {cap : Nat} {bs : List UInt8} {S : Nat → Prop} (h : Lft w B g A cap bs) (hf : Frm S w w') (hg : ¬ S g) (hS : ∀ k, k < B → ¬ S k) : Lft w' B g A cap bs :=
 ⟨h.box.frm hf hg, h.rd.frm (by have := h.box.lt; have := h.hB; omega) hf (fun p _ hp => hS _ hp), h.le, h.most, h.hB⟩
theorem Rd.rest {w : World} {B : Nat} {A : Option Addr} {xs : List Value} (h : Rd w B A xs) {n cap : Nat} (hc : xs.length ≤ cap) : Rd w B (if cap = n then A else Option.map (fun x => x.add n) A) (xs.drop n) := h.cut hc
theorem take_no (w : World) (B g : Nat) (A : Option Addr) (cap : Nat) (bs : List UInt8) (n : Nat) (h : Lft w B g A cap bs) (hn : bs.length < n) :
 Calls Tryz.prog 96 #[.pointer (some ⟨g, 0, none⟩), .int .i64 (n : Int)] w fun e w' => e = .panicked thrown ∧ w' = w := by
 have hc : w.cell? ⟨g, 0, none⟩ = some (.slice A bs.length cap) := h.box.cell 0
 have d1 : decide (n ≤ bs.length) = false := by simp; omega
 have hn2 : (bs.length : Int) < (n : Int) := by omega
 clear h
 go_in
 go_wp2_with fail
 refine (must_no _).mono ?_
 rintro e w1 ⟨rfl, rfl⟩
 go_wp2_with fail
 exact ⟨rfl, rfl, rfl⟩
def TakePostF (w : World) (B g : Nat) (A : Option Addr) (cap : Nat) (bs : List UInt8) (n : Nat) (e : Ending) (w' : World) : Prop :=
 ∃ A', e = .returned (.slice A n cap) ∧ Lft w' B g A' (cap - n) (bs.drop n) ∧ Rd w' B A ((bs.take n).map bv) ∧ Frm (fun k => k = g) w w'
theorem take_close {w : World} {B g : Nat} {A : Option Addr} {cap : Nat} {bs : List UInt8} {n : Nat} (h : Lft w B g A cap bs) (hn : n ≤ bs.length) :
 TakePostF w B g A cap bs n (.returned (.slice A n cap)) (w.setCell ⟨g, 0, none⟩ (.slice (if cap = n then A else Option.map (fun x => x.add n) A) (bs.length - n) (cap - n))) := by
 have F : Frm (fun k => k = g) w (w.setCell ⟨g, 0, none⟩ (.slice (if cap = n then A else Option.map (fun x => x.add n) A) (bs.length - n) (cap - n))) := (za (fun k => k = g) w).setCell (p := ⟨g, 0, none⟩) (fun _ => rfl) _
 have hB := h.hB
 have hBw : B ≤ w.heap.size := by have := h.box.lt; omega
 have hle := h.le
 have hm := h.most
 refine ⟨if cap = n then A else Option.map (fun x => x.add n) A, rfl, ⟨?_, ?_, by rw [zN]; omega, by unfold maxLen at *; omega, hB⟩, ?_, F⟩
 ·have := h.box.set 0 (.slice (if cap = n then A else Option.map (fun x => x.add n) A) (bs.length - n) (cap - n))
  rw [zN]
  exact this
 ·rw [List.map_drop]
  exact (h.rd.frm hBw F (fun p _ hp e => by omega)).rest (by simpa using hle)
 ·rw [List.map_take]
  exact (h.rd.frm hBw F (fun p _ hp e => by omega)).take n
theorem take_yes (w : World) (B g : Nat) (A : Option Addr) (cap : Nat) (bs : List UInt8) (n : Nat) (h : Lft w B g A cap bs) (hn : n ≤ bs.length) :
 Calls Tryz.prog 96 #[.pointer (some ⟨g, 0, none⟩), .int .i64 (n : Int)] w fun e w' => TakePostF w B g A cap bs n e w' := by
 have hc : w.cell? ⟨g, 0, none⟩ = some (.slice A bs.length cap) := h.box.cell 0
 have hf := h.box.frozen 0
 have d1 : decide (n ≤ bs.length) = true := by simp; omega
 have hle := h.le
 have hmost := h.most
 unfold maxLen at hmost
 have hn0 : (0 : Int) ≤ n := by omega
 have hn1 : (n : Int) ≤ bs.length := by omega
 have hn2 : (n : Int) ≤ cap := by omega
 have hn3 : n ≤ cap := by omega
 have hn4 : (bs.length : Int) ≤ cap := by omega
 have H := zh h
 clear h
 go_in
 go_wp2_with fail
 refine (must_yes _).mono ?_
 rintro e w1 ⟨rfl, rfl⟩
 have HT := zh (take_close H.out hn)
 by_cases hcn : cap = n
 ·subst hcn
  rw [zl rfl, Nat.sub_self, show bs.length - cap = 0 from by omega] at HT
  go_wp2_with fail
  go_ret
  exact HT.out
 ·rw [zk hcn] at HT
  go_wp2_with fail
  go_ret
  exact HT.out
end
namespace FieldM
open Go.Lib

end FieldM
end Go.Proofs.YtnmokpbomeamfaaGreat

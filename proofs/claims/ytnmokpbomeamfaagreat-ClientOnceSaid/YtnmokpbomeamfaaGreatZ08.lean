/- Proved here, for the statement ClientOnceSaid: laws that its walk leans on. It holds with no condition. (Put together and shortened by a program out of many texts: On21, On22, On23.) -/
import Derived.Test.YtnmokpbomeamfaaGreatZ07
set_option linter.unusedVariables false
set_option maxRecDepth 100000
set_option maxHeartbeats 64000000
namespace Go.Proofs.YtnmokpbomeamfaaGreat
section
open Go.RowKit QueueM
def TS (T : TypeId → Bool) (B : Nat) (w : World) (k : Nat) : Prop := B ≤ k ∧ ∃ t cs, Blk w k t cs ∧ T t = true
def FT (T : TypeId → Bool) (B : Nat) (w w' : World) : Prop := Frm (TS T B w) w w'
section
variable {T : TypeId → Bool} {B : Nat} {w w' w'' : World}
theorem FT.refl (T : TypeId → Bool) (B : Nat) (w : World) : FT T B w w := za _ _
theorem FT.trans (h : FT T B w w') (k : FT T B w' w'') : FT T B w w'' := by
 refine Frm.trans' h k (fun i hi ht => ?_)
 obtain ⟨h1, t, cs, h2, h3⟩ := ht
 by_cases hs : TS T B w i
 ·exact hs
 ·exact ⟨h1, t, cs, (h.block i hi hs).symm.trans h2, h3⟩
theorem FT.of_fresh (F : Fresh w w') : FT T B w w' := F.frm
theorem FT.of_frm {S : Nat → Prop} (h : Frm S w w') (hS : ∀ k, k < w.heap.size → S k → TS T B w k) : FT T B w w' := Frm.mono h hS
theorem FT.size (h : FT T B w w') : w.heap.size ≤ w'.heap.size := Frm.size h
theorem FT.blk {g : Nat} {t : TypeId} {cs : Array Value} (h : FT T B w w') (hb : Blk w g t cs) (ht : T t = false) : Blk w' g t cs := by
 refine Blk.frm hb h (fun hs => ?_)
 obtain ⟨_, t', cs', h2, h3⟩ := hs
 by_cases e : t = t'
 ·subst e; rw [ht] at h3; cases h3
 ·exact hb.apart h2 e rfl
theorem FT.sl {B' e size n : Nat} {v : Value} {xs : List Value} (h : FT T B w w') (hs : Sl w B' e size v n xs) (ht : T e = false) : Sl w' B' e size v n xs := by
 refine Sl.frm hs h (fun k hk hS => ?_)
 obtain ⟨_, t', cs', h2, h3⟩ := hS
 by_cases ee : e = t'
 ·subst ee; rw [ht] at h3; cases h3
 ·exact hs.apart h2 ee hk
theorem FT.more {T' : TypeId → Bool} (h : FT T B w w') (hT : ∀ t, T t = true → T' t = true) : FT T' B w w' := Frm.mono h (fun k _ hs => by
 obtain ⟨h1, t, cs, h2, h3⟩ := hs
 exact ⟨h1, t, cs, h2, hT t h3⟩)
end
theorem flat_get {α : Type} (f : α → List Value) (size : Nat) (hf : ∀ a, (f a).length = size) : ∀ (l : List α) (i : Nat) (h : i < l.length) (j : Nat), j < size → (l.flatMap f)[i * size + j]? = (f l[i])[j]?
 | x :: l, 0, _, j, hj => by
  rw [zq, Nat.zero_mul, Nat.zero_add, List.getElem?_append_left (by rw [hf]; exact hj)]
  rfl
 | x :: l, i + 1, h, j, hj => by
  rw [zq, List.getElem?_append_right (by rw [hf, Nat.add_mul]; omega), hf, show (i + 1) * size + j - size = i * size + j by rw [Nat.add_mul]; omega]
  exact flat_get f size hf l i (by simpa using h) j hj
theorem flat_len {α : Type} (f : α → List Value) (size : Nat) (hf : ∀ a, (f a).length = size) : ∀ (l : List α), (l.flatMap f).length = l.length * size
 | [] => by simp
 | x :: r => by rw [zq, zg, hf, flat_len f size hf r, zG, Nat.add_mul]; omega
theorem rd_flat {α : Type} {w : World} {B : Nat} {A : Option Addr} {l : List α} (f : α → List Value) (size : Nat) (hf : ∀ a, (f a).length = size) (hs : 0 < size) (h : Rd w B A (l.flatMap f)) {i : Nat} (hi : i < l.length) :
 ∃ b o, A = some ⟨b, o, none⟩ ∧ b < B ∧ ∀ j u, (f l[i])[j]? = some u → w.cell? ⟨b, o + i * size + j, none⟩ = some u := by
 have hne : l.flatMap f ≠ [] := fun e => by
  have h1 := flat_len f size hf l
  have h2 : 0 < l.length * size := Nat.mul_pos (by omega) hs
  rw [e] at h1
  simp only [zX] at h1
  omega
 obtain ⟨b, o, hA, hb, hc⟩ := h hne
 refine ⟨b, o, hA, hb, fun j u hu => ?_⟩
 have hj : j < size := by
  have := (List.getElem?_eq_some_iff.1 hu).1
  rwa [hf] at this
 rw [Nat.add_assoc]
 exact hc _ u (by rw [flat_get f size hf l i hi j hj]; exact hu)
def posOf {α : Type} (g : α → Int) (v : Int) : List α → Nat → Int
 | [], _ => -1
 | x :: r, i => if g x = v then (i : Int) else posOf g v r (i + 1)
theorem posOf_step {α : Type} (g : α → Int) (v : Int) {l : List α} {i : Nat} (h : i < l.length) : posOf g v (l.drop i) i = if g l[i] = v then (i : Int) else posOf g v (l.drop (i + 1)) (i + 1) := by
 rw [zK h, posOf]
theorem posOf_map {α β : Type} (g : β → Int) (k : α → β) (v : Int) : ∀ (l : List α) (i : Nat), posOf g v (l.map k) i = posOf (fun x => g (k x)) v l i
 | [], _ => rfl
 | x :: r, i => by rw [zW, posOf, posOf, posOf_map g k v r]
theorem jY {α : Type} (g : α → Int) (v : Int) : ∀ (l : List α) (i : Nat), (posOf g v l i = -1 ∧ ∀ x ∈ l, g x ≠ v) ∨ ∃ (k : Nat) (h : k < l.length), posOf g v l i = ((i + k : Nat) : Int) ∧ g l[k] = v
 | [], _ => .inl ⟨rfl, fun x hx => by cases hx⟩
 | x :: r, i => by
  rw [posOf]
  by_cases hx : g x = v
  ·rw [zl hx]; exact .inr ⟨0, by simp, rfl, hx⟩
  ·rw [zk hx]
   rcases jY g v r (i + 1) with ⟨h1, h2⟩ | ⟨k, h1, h2, h3⟩
   ·refine .inl ⟨h1, fun y hy => ?_⟩
    rcases zU.1 hy with rfl | hy
    ·exact hx
    ·exact h2 y hy
   ·exact .inr ⟨k + 1, by simp; omega, by rw [h2]; congr 1; omega, by simpa using h3⟩
structure Bk where
 id : Int
 fl : Int
 cl : Int
 mn : Int
 st : Int
 un : Int
def bcel (x : Bk) : List Value := [.int .i64 x.id, .int .i64 x.fl, .int .i64 x.cl, .int .i64 x.mn, .int .i64 x.st, .int .i64 x.un]
structure PlM where
 f : Nat
 m : FlM
 q : Nat
 v : Value
 ws : List Wt
def pcel (p : PlM) : List Value := [.pointer (some ⟨p.f, 0, none⟩), .pointer (some ⟨p.q, 0, none⟩)]
structure Pl where
 f : Fl
 q : List Wt
def PlM.abs (p : PlM) : Pl := ⟨p.m.abs, p.ws⟩
structure BkM where
 now : Int
 next : Int
 FA : Option Addr
 fc : Nat
 fs : List PlM
 LA : Option Addr
 lc : Nat
 l : List Bk
structure Book where
 now : Int
 next : Int
 fs : List Pl
 l : List Bk
def BkM.abs (M : BkM) : Book := ⟨M.now, M.next, M.fs.map PlM.abs, M.l⟩
def bkcel (M : BkM) : Array Value := #[.int .i64 M.now, .int .i64 M.next, .slice M.FA M.fs.length M.fc, .slice M.LA M.l.length M.lc]
def Apart (p p' : PlM) : Prop := p.f ≠ p'.f ∧ p.q ≠ p'.q ∧ ∀ k, p.m.hb = some k → p'.m.hb ≠ some k
structure BookAt (w : World) (B b : Nat) (M : BkM) : Prop where
 blk : Blk w b 87 (bkcel M)
 ge : B ≤ b
 fsl : Sl w B 134 2 (.slice M.FA M.fs.length M.fc) M.fs.length (M.fs.flatMap pcel)
 lsl : Sl w B 146 6 (.slice M.LA M.l.length M.lc) M.l.length (M.l.flatMap bcel)
 fl : ∀ p ∈ M.fs, FlAt w B p.f p.m ∧ B ≤ p.f
 qu : ∀ p ∈ M.fs, IsR w B p.q p.v p.ws
 ap : M.fs.Pairwise Apart
theorem IsR.frm {w w' : World} {B b : Nat} {v : Value} {l : List Wt} {S : Nat → Prop} (h : IsR w B b v l) (F : Frm S w w') (h1 : ¬ S b) (h2 : ∀ k, v.ownBlock = some k → ¬ S k) : IsR w' B b v l := ⟨h.blk.frm F h1, h.ge, h.sl.frm F h2⟩
theorem FlAt.frm {w w' : World} {B f : Nat} {m : FlM} {S : Nat → Prop} (h : FlAt w B f m) (F : Frm S w w') (h1 : ¬ S f) (h2 : ∀ k, m.hb = some k → ¬ S k) (h3 : ∀ k cs, Blk w k 3 cs → ¬ S k) : FlAt w' B f m := by
 have hi : ∀ {v : Value} {n : Nat} {xs : List Value}, Sl w B 3 1 v n xs → ∀ k, v.ownBlock = some k → ¬ S k := by
  intro v n xs hs k hk hS
  rcases hs.2 with ⟨rfl, _⟩ | ⟨g, o, cap, cur, rfl, _, hb, _⟩
  ·simp [Value.ownBlock] at hk
  ·have : g = k := by simpa [Value.ownBlock] using hk
   subst this
   exact h3 _ _ hb hS
 exact ⟨h.blk.frm F h1, h.gsl.frm F (hi h.gsl), h.lsl.frm F (hi h.lsl), h.hsl.frm F h2, fun x hx => (h.ssl x hx).frm F (hi (h.ssl x hx))⟩
theorem BookAt.fresh {w w' : World} {B b : Nat} {M : BkM} (h : BookAt w B b M) (F : Fresh w w') : BookAt w' B b M :=
 ⟨h.blk.frm F (fun f => f), h.ge, h.fsl.fresh F, h.lsl.fresh F, fun p hp => ⟨(h.fl p hp).1.fresh F, (h.fl p hp).2⟩, fun p hp => (h.qu p hp).fresh F, h.ap⟩
def bookT (t : TypeId) : Bool := t == 87 || t == 146 || t == 152 || t == 167 || t == 138
theorem BookAt.cells {w : World} {B b : Nat} {M : BkM} (h : BookAt w B b M) : w.cell? ⟨b, 0, none⟩ = some (.int .i64 M.now) ∧ w.cell? ⟨b, 1, none⟩ = some (.int .i64 M.next) ∧ w.cell? ⟨b, 2, none⟩ = some (.slice M.FA M.fs.length M.fc) ∧ w.cell? ⟨b, 3, none⟩ = some (.slice M.LA M.l.length M.lc) :=
 ⟨h.blk.cell 0, h.blk.cell 1, h.blk.cell 2, h.blk.cell 3⟩
theorem BookAt.place {w : World} {B b : Nat} {M : BkM} (h : BookAt w B b M) {k : Nat} (hk : k < M.fs.length) : ∃ g o, M.FA = some ⟨g, o, none⟩ ∧ g < w.heap.size ∧ w.cell? ⟨g, o + k * 2, none⟩ = some (.pointer (some ⟨M.fs[k].f, 0, none⟩)) ∧ w.cell? ⟨g, o + k * 2 + 1, none⟩ = some (.pointer (some ⟨M.fs[k].q, 0, none⟩)) := by
 obtain ⟨g, o, hA, hb, hc⟩ := rd_flat pcel 2 (fun _ => rfl) (by omega) h.fsl.rd hk
 exact ⟨g, o, hA, hb, hc 0 _ rfl, hc 1 _ rfl⟩
def SixB (w : World) (g o : Nat) (x : Bk) : Prop := w.cell? ⟨g, o, none⟩ = some (.int .i64 x.id) ∧ w.cell? ⟨g, o + 1, none⟩ = some (.int .i64 x.fl) ∧ w.cell? ⟨g, o + 2, none⟩ = some (.int .i64 x.cl) ∧ w.cell? ⟨g, o + 3, none⟩ = some (.int .i64 x.mn) ∧ w.cell? ⟨g, o + 4, none⟩ = some (.int .i64 x.st) ∧ w.cell? ⟨g, o + 5, none⟩ = some (.int .i64 x.un)
theorem BookAt.bk {w : World} {B b : Nat} {M : BkM} (h : BookAt w B b M) {k : Nat} (hk : k < M.l.length) : ∃ g o, M.LA = some ⟨g, o, none⟩ ∧ g < w.heap.size ∧ SixB w g (o + k * 6) M.l[k] := by
 obtain ⟨g, o, hA, hb, hc⟩ := rd_flat bcel 6 (fun _ => rfl) (by omega) h.lsl.rd hk
 exact ⟨g, o, hA, hb, hc 0 _ rfl, hc 1 _ rfl, hc 2 _ rfl, hc 3 _ rfl, hc 4 _ rfl, hc 5 _ rfl⟩
def qL (n : Int) (x : Book) : Int := posOf (fun p : Pl => p.f.num) n x.fs 0
def jO (id : Int) (x : Book) : Int := posOf (fun p : Bk => p.id) id x.l 0
theorem flightA_eq (n : Int) (M : BkM) : qL n M.abs = posOf (fun p : PlM => p.m.num) n M.fs 0 := by
 unfold qL BkM.abs
 exact posOf_map _ _ _ _ _
theorem qD (w : World) (B b : Nat) (M : BkM) (n : Int) (h : BookAt w B b M) (hl : M.fs.length ≤ 8) :
 Calls Tryz.prog 70 #[.pointer (some ⟨b, 0, none⟩), .int .i64 n] w fun e w' => e = .returned (.int .i64 (qL n M.abs)) ∧ w' = w := by
 rw [flightA_eq]
 obtain ⟨_, _, y2, _⟩ := h.cells
 have HP : Hid (∀ k (hk : k < M.fs.length), ∃ g o, M.FA = some ⟨g, o, none⟩ ∧ w.cell? ⟨g, o + k * 2, none⟩ = some (.pointer (some ⟨M.fs[k].f, 0, none⟩)) ∧ w.cell? ⟨M.fs[k].f, 0, none⟩ = some (.int .i64 M.fs[k].m.num)) := zh fun k hk => by
  obtain ⟨g, o, hA, _, h1, _⟩ := h.place hk
  exact ⟨g, o, hA, h1, (h.fl _ (ze hk)).1.blk.cell 0⟩
 generalize M.FA = FA at y2 HP
 generalize M.fc = fc at y2
 generalize M.fs = fs at y2 HP hl ⊢
 clear h
 go_in
 go_wp2_with fail
 go_loopw [5] (fun v5 wr => ∃ i : Nat, i ≤ fs.length ∧ v5 = .int .i64 (i : Int) ∧ posOf (fun p : PlM => p.m.num) n fs 0 = posOf (fun p : PlM => p.m.num) n (fs.drop i) i ∧ wr = w) (fun v5 _ => fs.length - (intOf v5).toNat)
 case atStart => exact ⟨0, by omega, rfl, rfl, rfl⟩
 case round =>
  obtain ⟨i, hi, rfl, hp, rfl⟩ := hrel
  have hi0 : (0 : Int) ≤ (i : Int) := by omega
  have HQ := zh hp
  clear hp
  by_cases hlt : i < fs.length
  ·have hlti : (i : Int) < (fs.length : Int) := by omega
   obtain ⟨g, o, rfl, c0, c1⟩ := HP.out i hlt
   have HST : Hid (posOf (fun p : PlM => p.m.num) n fs 0 = if fs[i].m.num = n then (i : Int) else posOf (fun p : PlM => p.m.num) n (fs.drop (i + 1)) (i + 1)) := zh (by rw [HQ.out, posOf_step _ _ hlt])
   generalize fs[i].m.num = x at c1 HST
   generalize fs[i].f = f at c0 c1
   by_cases hx : x = n
   ·have d1 : (x == n) = true := by rw [hx]; simp
    have HV : Hid (posOf (fun p : PlM => p.m.num) n fs 0 = (i : Int)) := zh (by rw [HST.out, zl hx])
    clear hx
    go_wp2_with fail
    go_ret
    exact ⟨ret_z HV.out.symm, rfl⟩
   ·have d1 : (x == n) = false := by rw [zC]; exact hx
    have HV : Hid (posOf (fun p : PlM => p.m.num) n fs 0 = posOf (fun p : PlM => p.m.num) n (fs.drop (i + 1)) (i + 1)) := zh (by rw [HST.out, zk hx])
    clear hx
    go_wp2_with fail
    go_roundw
    case rel => exact ⟨i + 1, by omega, by go_num, HV.out, by first | rfl | trivial⟩
    case measure => simp [intOf]; omega
  ·have hlti : ¬ (i : Int) < (fs.length : Int) := by omega
   have HV : Hid (posOf (fun p : PlM => p.m.num) n fs 0 = -1) := zh (by rw [HQ.out, List.drop_eq_nil_of_le (by omega)]; rfl)
   go_wp2_with fail
   go_ret
   exact ⟨ret_z HV.out.symm, rfl⟩
theorem booking18_any (w : World) (B b : Nat) (M : BkM) (id : Int) (h : BookAt w B b M) (hl : M.l.length ≤ 1000) :
 Calls Tryz.prog 82 #[.pointer (some ⟨b, 0, none⟩), .int .i64 id] w fun e w' => e = .returned (.int .i64 (jO id M.abs)) ∧ w' = w := by
 have e0 : jO id M.abs = posOf (fun p : Bk => p.id) id M.l 0 := rfl
 rw [e0]
 obtain ⟨_, _, _, y3⟩ := h.cells
 have HP : Hid (∀ k (hk : k < M.l.length), ∃ g o, M.LA = some ⟨g, o, none⟩ ∧ w.cell? ⟨g, o + k * 6, none⟩ = some (.int .i64 M.l[k].id)) := zh fun k hk => by
  obtain ⟨g, o, hA, _, h1, _⟩ := h.bk hk
  exact ⟨g, o, hA, h1⟩
 generalize M.LA = LA at y3 HP
 generalize M.lc = lc at y3
 generalize M.l = l at y3 HP hl ⊢
 clear h e0
 go_in
 go_wp2_with fail
 go_loopw [5] (fun v5 wr => ∃ i : Nat, i ≤ l.length ∧ v5 = .int .i64 (i : Int) ∧ posOf (fun p : Bk => p.id) id l 0 = posOf (fun p : Bk => p.id) id (l.drop i) i ∧ wr = w) (fun v5 _ => l.length - (intOf v5).toNat)
 case atStart => exact ⟨0, by omega, rfl, rfl, rfl⟩
 case round =>
  obtain ⟨i, hi, rfl, hp, rfl⟩ := hrel
  have hi0 : (0 : Int) ≤ (i : Int) := by omega
  have HQ := zh hp
  clear hp
  by_cases hlt : i < l.length
  ·have hlti : (i : Int) < (l.length : Int) := by omega
   obtain ⟨g, o, rfl, c0⟩ := HP.out i hlt
   have HST : Hid (posOf (fun p : Bk => p.id) id l 0 = if l[i].id = id then (i : Int) else posOf (fun p : Bk => p.id) id (l.drop (i + 1)) (i + 1)) := zh (by rw [HQ.out, posOf_step _ _ hlt])
   generalize l[i].id = x at c0 HST
   by_cases hx : x = id
   ·have d1 : (x == id) = true := by rw [hx]; simp
    have HV : Hid (posOf (fun p : Bk => p.id) id l 0 = (i : Int)) := zh (by rw [HST.out, zl hx])
    clear hx
    go_wp2_with fail
    go_ret
    exact ⟨ret_z HV.out.symm, rfl⟩
   ·have d1 : (x == id) = false := by rw [zC]; exact hx
    have HV : Hid (posOf (fun p : Bk => p.id) id l 0 = posOf (fun p : Bk => p.id) id (l.drop (i + 1)) (i + 1)) := zh (by rw [HST.out, zk hx])
    clear hx
    go_wp2_with fail
    go_roundw
    case rel => exact ⟨i + 1, by omega, by go_num, HV.out, by first | rfl | trivial⟩
    case measure => simp [intOf]; omega
  ·have hlti : ¬ (i : Int) < (l.length : Int) := by omega
   have HV : Hid (posOf (fun p : Bk => p.id) id l 0 = -1) := zh (by rw [HQ.out, List.drop_eq_nil_of_le (by omega)]; rfl)
   go_wp2_with fail
   go_ret
   exact ⟨ret_z HV.out.symm, rfl⟩
def fullA (x : Book) : Bool := decide (300 ≤ x.l.length) || decide (28629151 ≤ x.next)
theorem full18_any (w : World) (B b : Nat) (M : BkM) (h : BookAt w B b M) :
 Calls Tryz.prog 105 #[.pointer (some ⟨b, 0, none⟩)] w fun e w' => e = .returned (.bool (fullA M.abs)) ∧ w' = w := by
 obtain ⟨_, y1, _, y3⟩ := h.cells
 have HV : Hid (fullA M.abs = (decide (300 ≤ M.l.length) || decide (28629151 ≤ M.next))) := zh rfl
 generalize M.LA = LA at y3
 generalize M.lc = lc at y3
 generalize M.l.length = n at y3 HV
 generalize M.next = next at y1 HV
 clear h
 by_cases c0 : 300 ≤ n
 ·have d0 : decide ((300 : Int) ≤ (n : Int)) = true := zc (by omega)
  have d1 : decide (300 ≤ n) = true := zc c0
  go_in
  go_wp2_with fail
  go_ret
  exact ⟨by rw [HV.out, zc c0]; rfl, rfl⟩
 ·have d0 : decide ((300 : Int) ≤ (n : Int)) = false := zb (by omega)
  have d1 : decide (300 ≤ n) = false := zb c0
  go_in
  go_wp2_with fail
  go_ret
  exact ⟨by rw [HV.out, zb c0]; rfl, rfl⟩
end
section
open Go.RowKit QueueM
theorem flat_setG {α : Type} (f : α → List Value) (size : Nat) (hf : ∀ a, (f a).length = size) (j : Nat) (u : Value) (x' : α) : ∀ (l : List α) (i : Nat) (h : i < l.length), j < size → f x' = (f l[i]).set j u → (l.flatMap f).set (i * size + j) u = (l.set i x').flatMap f
 | x :: r, 0, _, hj, hx => by
  rw [zq, Nat.zero_mul, Nat.zero_add, List.set_append_left _ _ (by rw [hf]; exact hj), List.set_cons_zero, zq, hx]
  rfl
 | x :: r, i + 1, h, hj, hx => by
  rw [zq, List.set_append_right _ _ (by rw [hf, Nat.add_mul]; omega), hf, show (i + 1) * size + j - size = i * size + j by rw [Nat.add_mul]; omega, flat_setG f size hf j u x' r i (by simpa using h) hj (by simpa using hx), List.set_cons_succ, zq]
theorem flat_same {α : Type} (f : α → List Value) (x' : α) : ∀ (l : List α) (i : Nat) (h : i < l.length), f x' = f l[i] → (l.set i x').flatMap f = l.flatMap f
 | x :: r, 0, _, hx => by
  rw [List.set_cons_zero, zq, zq, hx]
  rfl
 | x :: r, i + 1, h, hx => by
  rw [List.set_cons_succ, zq, zq, flat_same f x' r i (by simpa using h) (by simpa using hx)]
theorem Sl.has {w : World} {B e size n : Nat} {v : Value} {xs : List Value} (h : Sl w B e size v n xs) {k : Nat} (hk : v.ownBlock = some k) : ∃ cs, Blk w k e cs ∧ B ≤ k := by
 rcases h.2 with ⟨rfl, _⟩ | ⟨g, o, cap, cur, rfl, hB, hb, _⟩
 ·simp [Value.ownBlock] at hk
 ·have : g = k := by simpa [Value.ownBlock] using hk
  subst this
  exact ⟨_, hb, hB⟩
theorem FlAt.hasH {w : World} {B f : Nat} {m : FlM} (h : FlAt w B f m) {k : Nat} (hk : m.hb = some k) : ∃ cs, Blk w k 167 cs ∧ B ≤ k := h.hsl.has hk
theorem BookAt.apart {w : World} {B b : Nat} {M : BkM} (h : BookAt w B b M) {i j : Nat} (hi : i < M.fs.length) (hj : j < M.fs.length) (hij : i ≠ j) : Apart M.fs[i] M.fs[j] := by
 have hp := List.pairwise_iff_getElem.1 h.ap
 rcases Nat.lt_or_gt_of_ne hij with h1 | h1
 ·exact hp i j hi hj h1
 ·obtain ⟨a, b, c⟩ := hp j i hj hi h1
  exact ⟨fun e => a e.symm, fun e => b e.symm, fun k hk hk' => c k hk' hk⟩
def StepB (w : World) (B b : Nat) (x : Book) (w' : World) : Prop := ∃ M', M'.abs = x ∧ BookAt w' B b M' ∧ FT bookT B w w'
theorem BookAt.own {w w2 : World} {B b : Nat} {M M' : BkM} (h : BookAt w B b M) (F : Frm (fun k => k = b) w w2) (hb : Blk w2 b 87 (bkcel M')) (hfs : M'.fs = M.fs)
 (hF : Sl w2 B 134 2 (.slice M'.FA M'.fs.length M'.fc) M'.fs.length (M'.fs.flatMap pcel)) (hL : Sl w2 B 146 6 (.slice M'.LA M'.l.length M'.lc) M'.l.length (M'.l.flatMap bcel)) : BookAt w2 B b M' ∧ FT bookT B w w2 := by
 refine ⟨⟨hb, h.ge, hF, hL, ?_, ?_, by rw [hfs]; exact h.ap⟩, FT.of_frm F (fun k hk e => by subst e; exact ⟨h.ge, _, _, h.blk, by decide⟩)⟩
 ·intro p hp
  rw [hfs] at hp
  obtain ⟨h1, h2⟩ := h.fl p hp
  refine ⟨h1.frm F (fun e => ?_) (fun k hk e => ?_) (fun k cs hk e => ?_), h2⟩
  ·exact h1.blk.apart h.blk (by decide) e
  ·subst e
   obtain ⟨cs, hc, _⟩ := h1.hasH hk
   exact hc.apart h.blk (by decide) rfl
  ·subst e
   exact hk.apart h.blk (by decide) rfl
 ·intro p hp
  rw [hfs] at hp
  have h1 := h.qu p hp
  exact h1.frm F (fun e => h1.blk.apart h.blk (by decide) e) (fun k hk e => by subst e; exact h1.sl.apart h.blk (by decide) hk)
theorem BookAt.setL {w w1 : World} {B b : Nat} {M : BkM} {A3 : Option Addr} {c3 : Nat} {l' : List Bk} (h : BookAt w1 B b M) (F : FT bookT B w w1)
 (hs : Sl w1 B 146 6 (.slice A3 l'.length c3) l'.length (l'.flatMap bcel)) : StepB w B b { M.abs with l := l' } (w1.setCell ⟨b, 3, none⟩ (.slice A3 l'.length c3)) := by
 have FS : Frm (fun k => k = b) w1 (w1.setCell ⟨b, 3, none⟩ (.slice A3 l'.length c3)) := (za (fun k => k = b) w1).setCell (p := ⟨b, 3, none⟩) (fun _ => rfl) _
 obtain ⟨k1, k2⟩ := h.own (M' := { M with LA := A3, lc := c3, l := l' }) FS (h.blk.set 3 _) rfl (h.fsl.frm FS (fun k hk e => by subst e; exact h.fsl.apart h.blk (by decide) hk)) (hs.frm FS (fun k hk e => by subst e; exact hs.apart h.blk (by decide) hk))
 exact ⟨_, rfl, k1, F.trans k2⟩
theorem BookAt.setNow {w w1 : World} {B b : Nat} {M : BkM} (h : BookAt w1 B b M) (F : FT bookT B w w1) (n : Int) : StepB w B b { M.abs with now := n } (w1.setCell ⟨b, 0, none⟩ (.int .i64 n)) := by
 have FS : Frm (fun k => k = b) w1 (w1.setCell ⟨b, 0, none⟩ (.int .i64 n)) := (za (fun k => k = b) w1).setCell (p := ⟨b, 0, none⟩) (fun _ => rfl) _
 obtain ⟨k1, k2⟩ := h.own (M' := { M with now := n }) FS (h.blk.set 0 _) rfl (h.fsl.frm FS (fun k hk e => by subst e; exact h.fsl.apart h.blk (by decide) hk)) (h.lsl.frm FS (fun k hk e => by subst e; exact h.lsl.apart h.blk (by decide) hk))
 exact ⟨_, rfl, k1, F.trans k2⟩
theorem BookAt.setNext {w w1 : World} {B b : Nat} {M : BkM} (h : BookAt w1 B b M) (F : FT bookT B w w1) (n : Int) : StepB w B b { M.abs with next := n } (w1.setCell ⟨b, 1, none⟩ (.int .i64 n)) := by
 have FS : Frm (fun k => k = b) w1 (w1.setCell ⟨b, 1, none⟩ (.int .i64 n)) := (za (fun k => k = b) w1).setCell (p := ⟨b, 1, none⟩) (fun _ => rfl) _
 obtain ⟨k1, k2⟩ := h.own (M' := { M with next := n }) FS (h.blk.set 1 _) rfl (h.fsl.frm FS (fun k hk e => by subst e; exact h.fsl.apart h.blk (by decide) hk)) (h.lsl.frm FS (fun k hk e => by subst e; exact h.lsl.apart h.blk (by decide) hk))
 exact ⟨_, rfl, k1, F.trans k2⟩
theorem BookAt.setB' {w1 : World} {B b : Nat} {M : BkM} (h : BookAt w1 B b M) {i : Nat} (hi : i < M.l.length) {g o : Nat} (hA : M.LA = some ⟨g, o, none⟩) (j : Nat) (hj : j < 6) (u : Value) (x' : Bk) (hx : bcel x' = (bcel M.l[i]).set j u) :
 BookAt (w1.setCell ⟨g, o + i * 6 + j, none⟩ u) B b { M with l := M.l.set i x' } ∧ FT bookT B w1 (w1.setCell ⟨g, o + i * 6 + j, none⟩ u) := by
 have FS : Frm (fun k => k = g) w1 (w1.setCell ⟨g, o + i * 6 + j, none⟩ u) := (za (fun k => k = g) w1).setCell (p := ⟨g, o + i * 6 + j, none⟩) (fun _ => rfl) _
 have hh := h.lsl
 rw [hA] at hh
 obtain ⟨cs, hb, hg⟩ := hh.has (k := g) rfl
 have hst := hh.store (j := i * 6 + j) (by rw [flat_len bcel 6 (fun _ => rfl)]; omega) u
 rw [flat_setG bcel 6 (fun _ => rfl) j u x' M.l i hi hj hx, show o + (i * 6 + j) = o + i * 6 + j by omega] at hst
 refine ⟨⟨?_, h.ge, ?_, ?_, ?_, ?_, h.ap⟩, (FT.of_frm FS (fun k hk e => by subst e; exact ⟨hg, _, _, hb, by decide⟩))⟩
 ·have := h.blk.frm FS (h.blk.apart hb (by decide))
  unfold bkcel at this ⊢
  dsimp only
  rw [zz]
  exact this
 ·exact h.fsl.frm FS (fun k hk e => by subst e; exact h.fsl.apart hb (by decide) hk)
 ·dsimp only
  rw [zz, hA]
  exact hst
 ·intro p hp
  obtain ⟨h1, h2⟩ := h.fl p hp
  refine ⟨h1.frm FS (fun e => ?_) (fun k hk e => ?_) (fun k cs hk e => ?_), h2⟩
  ·exact h1.blk.apart hb (by decide) e
  ·subst e
   obtain ⟨cs, hc, _⟩ := h1.hasH hk
   exact hc.apart hb (by decide) rfl
  ·subst e
   exact hk.apart hb (by decide) rfl
 ·intro p hp
  have h1 := h.qu p hp
  exact h1.frm FS (fun e => h1.blk.apart hb (by decide) e) (fun k hk e => by subst e; exact h1.sl.apart hb (by decide) hk)
theorem abs_setFs (M : BkM) (k : Nat) (p : PlM) : ({ M with fs := M.fs.set k p } : BkM).abs = { M.abs with fs := M.abs.fs.set k p.abs } := by
 unfold BkM.abs
 dsimp only
 rw [List.map_set]
theorem BookAt.setF {w w1 w2 : World} {B b : Nat} {M : BkM} (h : BookAt w1 B b M) (F : FT bookT B w w1) {k : Nat} (hk : k < M.fs.length) {m' : Fl} (hs : StepF w1 B M.fs[k].f M.fs[k].m m' w2) :
 ∃ m1 : FlM, m1.abs = m' ∧ BookAt w2 B b { M with fs := M.fs.set k { M.fs[k] with m := m1 } } ∧ FT bookT B w w2 := by
 obtain ⟨m1, e1, hf1, FS, hhb⟩ := hs
 obtain ⟨hfk, hgk⟩ := h.fl _ (ze hk)
 have hty : ∀ i, (i = M.fs[k].f ∨ M.fs[k].m.hb = some i) → ∃ t cs, Blk w1 i t cs ∧ B ≤ i ∧ (t = 152 ∨ t = 167) := by
  rintro i (rfl | hi)
  ·exact ⟨_, _, hfk.blk, hgk, .inl rfl⟩
  ·obtain ⟨cs, hc, hg⟩ := hfk.hasH hi
   exact ⟨_, _, hc, hg, .inr rfl⟩
 have hno : ∀ {g : Nat} {t : TypeId} {cs : Array Value}, Blk w1 g t cs → t ≠ 152 → t ≠ 167 → ¬ (g = M.fs[k].f ∨ M.fs[k].m.hb = some g) := by
  intro g t cs hb h1 h2 hS
  obtain ⟨t', cs', hb', _, ht⟩ := hty g hS
  rcases ht with rfl | rfl
  ·exact hb.apart hb' h1 rfl
  ·exact hb.apart hb' h2 rfl
 have hsl : ∀ {v : Value} {e size n : Nat} {xs : List Value}, Sl w1 B e size v n xs → e ≠ 152 → e ≠ 167 → Sl w2 B e size v n xs := by
  intro v e size n xs hs h1 h2
  exact hs.frm FS (fun i hi => by obtain ⟨cs, hc, _⟩ := hs.has hi; exact hno hc h1 h2)
 refine ⟨m1, e1, ⟨?_, h.ge, ?_, ?_, ?_, ?_, ?_⟩, F.trans (FT.of_frm FS (fun i hi e => ?_))⟩
 ·have := h.blk.frm FS (hno h.blk (by decide) (by decide))
  unfold bkcel at this ⊢
  dsimp only
  rw [zz]
  exact this
 ·dsimp only
  rw [zz, flat_same pcel { M.fs[k] with m := m1 } M.fs k hk rfl]
  exact hsl h.fsl (by decide) (by decide)
 ·exact hsl h.lsl (by decide) (by decide)
 ·intro p hp
  dsimp only at hp
  obtain ⟨j, hj, rfl⟩ := List.mem_iff_getElem.1 hp
  rw [zz] at hj
  rw [List.getElem_set]
  by_cases hjk : k = j
  ·rw [zl hjk]
   exact ⟨hf1, hgk⟩
  ·rw [zk hjk]
   obtain ⟨h1, h2⟩ := h.fl _ (ze hj)
   obtain ⟨a1, a2, a3⟩ := h.apart hj hk (fun e => hjk e.symm)
   refine ⟨h1.frm FS ?_ ?_ ?_, h2⟩
   ·rintro (e | e)
    ·exact a1 e
    ·obtain ⟨cs, hc, _⟩ := hfk.hasH e
     exact h1.blk.apart hc (by decide) rfl
   ·rintro i hi (e | e)
    ·subst e
     obtain ⟨cs, hc, _⟩ := h1.hasH hi
     exact hc.apart hfk.blk (by decide) rfl
    ·exact a3 i hi e
   ·intro i cs hi
    exact hno hi (by decide) (by decide)
 ·intro p hp
  dsimp only at hp
  have hq : ∃ p' ∈ M.fs, p.q = p'.q ∧ p.v = p'.v ∧ p.ws = p'.ws := by
   rcases List.mem_or_eq_of_mem_set hp with hp | rfl
   ·exact ⟨p, hp, rfl, rfl, rfl⟩
   ·exact ⟨_, ze hk, rfl, rfl, rfl⟩
  obtain ⟨p', hp', e2, e3, e4⟩ := hq
  rw [e2, e3, e4]
  have h1 := h.qu p' hp'
  exact h1.frm FS (hno h1.blk (by decide) (by decide)) (fun i hi => by obtain ⟨cs, hc, _⟩ := h1.sl.has hi; exact hno hc (by decide) (by decide))
 ·rw [List.pairwise_iff_getElem]
  intro i j hi hj hij
  dsimp only at hi hj ⊢
  rw [zz] at hi hj
  rw [List.getElem_set, List.getElem_set]
  have hlow : ∀ n (hn : n < M.fs.length) x, M.fs[n].m.hb = some x → x < w1.heap.size := fun n hn x hx => by
   obtain ⟨cs, hc, _⟩ := (h.fl _ (ze hn)).1.hasH hx
   exact hc.lt
  by_cases hik : k = i
  ·subst hik
   rw [zl rfl, zk (by omega)]
   obtain ⟨a1, a2, a3⟩ := h.apart hk hj (by omega)
   refine ⟨a1, a2, fun x hx hx' => ?_⟩
   rcases hhb with e | e
   ·dsimp only at hx
    rw [e] at hx
    exact a3 x hx hx'
   ·have := e x hx
    have := hlow j hj x hx'
    omega
  ·rw [zk hik]
   by_cases hjk : k = j
   ·subst hjk
    rw [zl rfl]
    obtain ⟨a1, a2, a3⟩ := h.apart hi hk (by omega)
    refine ⟨a1, a2, fun x hx hx' => ?_⟩
    dsimp only at hx'
    rcases hhb with e | e
    ·rw [e] at hx'
     exact a3 x hx hx'
    ·have := e x hx'
     have := hlow i hi x hx
     omega
   ·rw [zk hjk]
    exact h.apart hi hj (by omega)
 ·obtain ⟨t, cs, hc, hg, ht⟩ := hty i e
  exact ⟨hg, t, cs, hc, by rcases ht with rfl | rfl <;> decide⟩
theorem BookAt.setQ {w w1 w2 : World} {B b : Nat} {M : BkM} (h : BookAt w1 B b M) (F : FT bookT B w w1) {k : Nat} (hk : k < M.fs.length) {ws' : List Wt} (hs : StepR w1 B M.fs[k].q ws' w2) :
 ∃ v', BookAt w2 B b { M with fs := M.fs.set k { M.fs[k] with v := v', ws := ws' } } ∧ FT bookT B w w2 := by
 obtain ⟨v', hq1, FS⟩ := hs
 have hqk := h.qu _ (ze hk)
 have hno : ∀ {g : Nat} {t : TypeId} {cs : Array Value}, Blk w1 g t cs → t ≠ 138 → ¬ (g = M.fs[k].q) := by
  intro g t cs hb h1 e
  subst e
  exact hb.apart hqk.blk h1 rfl
 have hsl : ∀ {v : Value} {e size n : Nat} {xs : List Value}, Sl w1 B e size v n xs → e ≠ 138 → Sl w2 B e size v n xs := by
  intro v e size n xs hs h1
  exact hs.frm FS (fun i hi => by obtain ⟨cs, hc, _⟩ := hs.has hi; exact hno hc h1)
 refine ⟨v', ⟨?_, h.ge, ?_, ?_, ?_, ?_, ?_⟩, F.trans (FT.of_frm FS (fun i hi e => by subst e; exact ⟨hqk.ge, _, _, hqk.blk, by decide⟩))⟩
 ·have := h.blk.frm FS (hno h.blk (by decide))
  unfold bkcel at this ⊢
  dsimp only
  rw [zz]
  exact this
 ·dsimp only
  rw [zz, flat_same pcel { M.fs[k] with v := v', ws := ws' } M.fs k hk rfl]
  exact hsl h.fsl (by decide)
 ·exact hsl h.lsl (by decide)
 ·intro p hp
  dsimp only at hp
  have hq : ∃ p' ∈ M.fs, p.f = p'.f ∧ p.m = p'.m := by
   rcases List.mem_or_eq_of_mem_set hp with hp | rfl
   ·exact ⟨p, hp, rfl, rfl⟩
   ·exact ⟨_, ze hk, rfl, rfl⟩
  obtain ⟨p', hp', e2, e3⟩ := hq
  rw [e2, e3]
  obtain ⟨h1, h2⟩ := h.fl p' hp'
  exact ⟨h1.frm FS (hno h1.blk (by decide)) (fun i hi => by obtain ⟨cs, hc, _⟩ := h1.hasH hi; exact hno hc (by decide)) (fun i cs hi => hno hi (by decide)), h2⟩
 ·intro p hp
  dsimp only at hp
  obtain ⟨j, hj, rfl⟩ := List.mem_iff_getElem.1 hp
  rw [zz] at hj
  rw [List.getElem_set]
  by_cases hjk : k = j
  ·rw [zl hjk]
   exact hq1
  ·rw [zk hjk]
   have h1 := h.qu _ (ze hj)
   obtain ⟨a1, a2, a3⟩ := h.apart hj hk (fun e => hjk e.symm)
   exact h1.frm FS a2 (fun i hi => by obtain ⟨cs, hc, _⟩ := h1.sl.has hi; exact hno hc (by decide))
 ·rw [List.pairwise_iff_getElem]
  intro i j hi hj hij
  dsimp only at hi hj ⊢
  rw [zz] at hi hj
  have e : ∀ n (hn : n < M.fs.length), ((M.fs.set k { M.fs[k] with v := v', ws := ws' })[n]'(by rw [zz]; exact hn)).f = M.fs[n].f ∧ ((M.fs.set k { M.fs[k] with v := v', ws := ws' })[n]'(by rw [zz]; exact hn)).q = M.fs[n].q ∧ ((M.fs.set k { M.fs[k] with v := v', ws := ws' })[n]'(by rw [zz]; exact hn)).m = M.fs[n].m := by
   intro n hn
   rw [List.getElem_set]
   by_cases hnk : k = n
   ·subst hnk
    rw [zl rfl]
    exact ⟨rfl, rfl, rfl⟩
   ·rw [zk hnk]
    exact ⟨rfl, rfl, rfl⟩
  obtain ⟨a1, a2, a3⟩ := h.apart hi hj (by omega)
  unfold Apart
  rw [(e i hi).1, (e i hi).2.1, (e i hi).2.2, (e j hj).1, (e j hj).2.1, (e j hj).2.2]
  exact ⟨a1, a2, a3⟩
theorem info_bk : (Tryz.prog.info? 146).map (fun i => (i.zero, i.size, i.bytes)) = some (some (.agg #[.int .i64 0, .int .i64 0, .int .i64 0, .int .i64 0, .int .i64 0, .int .i64 0]), 6, 48) := by kernel_rfl
theorem bcel_one (l : List Bk) : ∀ u ∈ l.flatMap bcel, u.oneCell' = true := by
 intro u hu
 obtain ⟨h, _, hm⟩ := List.mem_flatMap.1 hu
 simp [bcel] at hm
 rcases hm with rfl | rfl | rfl | rfl | rfl | rfl <;> rfl
def OutPost (w : World) (B b : Nat) (x : Book) (e : Ending) (w' : World) : Prop := e = .returned (.tuple #[]) ∧ StepB w B b x w'
theorem out18_any (w : World) (B b : Nat) (M : BkM) (p : Nat) (h : BookAt w B b M) (hB : B ≤ w.heap.size) (hp : p < M.l.length) (hl : M.l.length ≤ 1000) :
 Calls Tryz.prog 110 #[.pointer (some ⟨b, 0, none⟩), .int .i64 (p : Int)] w fun e w' => OutPost w B b { M.abs with l := cutAt M.l p } e w' := by
 obtain ⟨i0, hi, hz0, hz1, hz2⟩ := info_parts info_bk
 have HY4 : Hid (∀ w', Fresh w w' → w'.cell? ⟨b, 3, none⟩ = some (.slice M.LA M.l.length M.lc)) := zh fun w' F => (h.fresh F).blk.cell 3
 have HFZ : Hid (∀ w', Fresh w w' → w'.frozen? ⟨b, 3, none⟩ = false) := zh fun w' F => (h.fresh F).blk.frozen 3
 have HSET : Hid (∀ (w1 : World) (A3 : Option Addr) (c3 : Nat) (l' : List Bk), Fresh w w1 → Sl w1 w.heap.size 146 6 (.slice A3 l'.length c3) l'.length (l'.flatMap bcel) → StepB w B b { M.abs with l := l' } (w1.setCell ⟨b, 3, none⟩ (.slice A3 l'.length c3))) := zh fun w1 A3 c3 l' F hs3 => BookAt.setL (h.fresh F) (FT.of_fresh F) (hs3.less hB)
 obtain ⟨A1, _, q1, _, q3, _⟩ := cuts_sl 85 i0 Tryz.underlying85 hi hz1 h.lsl p (by omega)
 obtain ⟨_, A2, _, q2, _, q4⟩ := cuts_sl 85 i0 Tryz.underlying85 hi hz1 h.lsl (p + 1) (by omega)
 rw [Int.natCast_succ] at q2
 rw [flat_take4 bcel 6 (fun _ => rfl)] at q3
 rw [flat_drop4 bcel 6 (fun _ => rfl)] at q4
 generalize M.abs = ma at HSET ⊢
 generalize M.l = hh at HY4 HSET hl hp q1 q2 q3 q4 ⊢
 generalize M.LA = LA at HY4 q1 q2
 generalize M.lc = lc at HY4 q1 q2
 clear h
 have q7 : IntKind.i64.wrap ((p : Int) + 1) = (p : Int) + 1 := zm _ (by omega)
 have HL1 : Hid (((hh.take p).flatMap bcel).length = p * 6) := zh (by rw [flat_len bcel 6 (fun _ => rfl), zw, Nat.min_eq_left (by omega)])
 have HL2 : Hid (((hh.drop (p + 1)).flatMap bcel).length = (hh.length - (p + 1)) * 6) := zh (by rw [flat_len bcel 6 (fun _ => rfl), zN])
 obtain ⟨l8, hl8⟩ : ∃ x, x = cutAt hh p := ⟨_, rfl⟩
 have HIN : Hid (0 + p + (hh.length - (p + 1)) = l8.length) := zh (by rw [hl8, cutAt_len hp])
 have HIF : Hid ([] ++ (hh.take p).flatMap bcel ++ (hh.drop (p + 1)).flatMap bcel = l8.flatMap bcel) := zh (by rw [hl8, cutAt_flat])
 rw [← hl8]
 clear hl8
 have S0 : Hid (Sl (w.alloc (.cells #[] 146)).drew w.heap.size 146 6 (.slice (some ⟨w.heap.size, 0, none⟩) 0 0) 0 []) := zh (nil_sl w _ 6)
 have F0 : Hid (Fresh w (w.alloc (.cells #[] 146)).drew) := zh ((jC w _).drew)
 have hc0 : w.drew.cell? ⟨b, 3, none⟩ = some (.slice LA hh.length lc) := HY4.out _ (za _ _).drew
 have hc1 := HY4.out _ F0.out
 have RT : Hid (Rd (w.alloc (.cells #[] 146)).drew w.heap.size A1 ((hh.take p).flatMap bcel)) := zh ((q3.alloc (zf _) _).drew)
 have RD : Hid (∀ w', Fresh w w' → Rd w' w.heap.size A2 ((hh.drop (p + 1)).flatMap bcel)) := zh fun w' F => q4.fresh (zf _) F
 clear q3 q4
 go_in
 go_wp2_with fail
 go_region_law (first
  | (refine step_app (by rfl) (.tmp 5) (.tmp 11) _ (by rfl) w 146 i0 _ 6 48 Tryz.underlying85 hi hz0 hz1 hz2 rfl (by omega) (.slice (some ⟨w.heap.size, 0, none⟩) 0 0) 0 [] (by simp [Act.eval, Act.put]) S0.out w.heap.size A1 p lc ((hh.take p).flatMap bcel) (by simp [Act.eval, Act.put]) HL1.out RT.out (bcel_one _) (by omega) (by omega) F0.out ?_; intro v1 wa hs1 hf1; have HS1 := zh hs1; have HF1 := zh hf1; have hca := HY4.out wa hf1; clear hs1 hf1)
  | (refine step_app (by rfl) (.tmp 12) (.tmp 19) _ (by rfl) w 146 i0 _ 6 48 Tryz.underlying85 hi hz0 hz1 hz2 rfl (by omega) v1 (0 + p) _ (by simp [Act.eval, Act.put]) HS1.out w.heap.size A2 (hh.length - (p + 1)) (lc - (p + 1)) ((hh.drop (p + 1)).flatMap bcel) (by simp [Act.eval, Act.put]) HL2.out (RD.out wa HF1.out) (bcel_one _) (by omega) (by omega) HF1.out ?_; intro v3 wc hs3 hf3; rw [HIN.out, HIF.out] at hs3; obtain ⟨A3, c3, rfl, _⟩ := hs3.shape; have HS3 := zh hs3; have HF3 := zh hf3; have hcc := HY4.out wc hf3; have hzc := HFZ.out wc hf3; clear hs3 hf3))
 all_goals (
  go_wp2_with fail
  exact zi (v := .tuple #[]) (by simp [results, Tryz.results110, go_sem]) rfl ⟨rfl, HSET.out wc A3 c3 l8 HF3.out HS3.out⟩)
end
section
open QueueM
structure Cm where
 kind : Int
 pnr : List UInt8
 fl : Int
 cl : Int
 mn : Int
 tm : Int
 sc : Nat
 lb : List UInt8
 rows : Int
 gs : List Int
 ps : List Nat
structure CmB (c : Cm) : Prop where
 kind : 0 ≤ c.kind ∧ c.kind ≤ 9
 pnr : c.pnr.length ≤ 16
 fl : 0 ≤ c.fl ∧ c.fl ≤ 9999
 cl : 0 ≤ c.cl ∧ c.cl ≤ 9999
 mn : 0 ≤ c.mn ∧ c.mn ≤ 9999
 tm : 0 ≤ c.tm ∧ c.tm ≤ 1099511627776
 lb : c.lb.length ≤ 16
 rows : 0 ≤ c.rows ∧ c.rows ≤ 9999
 gs : small c.gs
 ps : c.ps.length ≤ 16 ∧ ∀ x ∈ c.ps, x < 18446744073709551616
structure Rep where
 code : Int
 pnr : List UInt8
 st : Int
 fl : Int
 cl : Int
 mn : Int
 tm : Int
 left : List Int
 labels : List (List UInt8)
def repC (c : Int) : Rep := ⟨c, [], 0, 0, 0, 0, 0, [], []⟩
def plAt (x : Book) (k : Nat) : Pl := x.fs.getD k ⟨⟨0, 0, [], [], []⟩, []⟩
def bkAt (x : Book) (i : Nat) : Bk := x.l.getD i ⟨0, 0, 0, 0, 0, 0⟩
theorem jP {x : Book} {k : Nat} (h : k < x.fs.length) : plAt x k = x.fs[k] := by unfold plAt; simp [List.getD, h]
theorem bkAt_get {x : Book} {k : Nat} (h : k < x.l.length) : bkAt x k = x.l[k] := by unfold bkAt; simp [List.getD, h]
def setSt (l : List Bk) (i : Nat) (s : Int) : List Bk := l.set i { (l.getD i ⟨0, 0, 0, 0, 0, 0⟩) with st := s }
def setUn (l : List Bk) (i : Nat) (s : Int) : List Bk := l.set i { (l.getD i ⟨0, 0, 0, 0, 0, 0⟩) with un := s }
noncomputable def toldA (x : Book) (i : Nat) : Rep :=
 ⟨0, locOf (bkAt x i).id.toNat, (bkAt x i).st, (bkAt x i).fl, (bkAt x i).cl, (bkAt x i).mn, (bkAt x i).un, leftA (plAt x (qL (bkAt x i).fl x).toNat).f, labelsA (plAt x (qL (bkAt x i).fl x).toNat).f (bkAt x i).id⟩
def jT (x : Book) (b : List UInt8) : Int × Int :=
 if (readP b).2 ≠ 0 then (0, (readP b).2) else if jO (readP b).1 x < 0 then (0, 2) else (jO (readP b).1 x, 0)
noncomputable def showA (x : Book) (c : Cm) : Rep :=
 if c.kind ≠ 9 then repC 1
 else if c.pnr ≠ [] then (if (jT x c.pnr).2 ≠ 0 then repC (jT x c.pnr).2 else toldA x (jT x c.pnr).1.toNat)
 else if qL c.fl x < 0 then repC 2
 else { repC 0 with fl := c.fl, left := leftA (plAt x (qL c.fl x).toNat).f, mn := ((plAt x (qL c.fl x).toNat).q.length : Int) }
noncomputable def jS (x : Book) (k : Nat) (w : Wt) : Book :=
 { x with fs := x.fs.set k ⟨(takeA (plAt x k).f w.id w.cls w.many).2, (remove w.id (plAt x k).q).2⟩, l := setSt x.l (jO w.id x).toNat 2 }
noncomputable def promF : Nat → Book → Nat → Book
 | 0, x, _ => x
 | n + 1, x, k => match first (leftA (plAt x k).f) (plAt x k).q with
  | none => x
  | some w => promF n (jS x k w) k
noncomputable def promA (x : Book) (k : Nat) : Book := promF (plAt x k).q.length x k
noncomputable def promAllF : Nat → Book → Nat → Book
 | 0, x, _ => x
 | n + 1, x, k => promAllF n (promA x k) (k + 1)
def release (x : Book) (i : Nat) (y : Bk) : Book :=
 { x with fs := x.fs.set (qL y.fl x).toNat ⟨(giveA (plAt x (qL y.fl x).toNat).f y.id).2, (plAt x (qL y.fl x).toNat).q⟩, l := cutAt x.l i }
def clockF : Nat → Book → Nat → Book
 | 0, x, _ => x
 | n + 1, x, i => if (bkAt x i).st = 1 ∧ (bkAt x i).un ≤ x.now then clockF n (release x i (bkAt x i)) i else clockF n x (i + 1)
noncomputable def clockA (x : Book) (t : Int) : Book × Rep :=
 if t < x.now then (x, repC 7) else (promAllF x.fs.length (clockF x.l.length { x with now := t } 0) 0, { repC 0 with tm := t })
def atNum (n : Int) : List Pl → Nat
 | [] => 0
 | p :: r => if p.f.num < n then atNum n r + 1 else 0
noncomputable def openA (x : Book) (c : Cm) : Book × Rep :=
 if 0 ≤ qL c.fl x then (x, repC 7)
 else if 8 ≤ x.fs.length then (x, repC 3)
 else if (newA c.fl c.rows c.gs c.ps).1 ≠ 0 then (x, repC (newA c.fl c.rows c.gs c.ps).1)
 else ({ x with fs := x.fs.take (atNum c.fl x.fs) ++ [⟨(newA c.fl c.rows c.gs c.ps).2, []⟩] ++ x.fs.drop (atNum c.fl x.fs) }, { repC 0 with fl := c.fl, left := leftA (newA c.fl c.rows c.gs c.ps).2 })
noncomputable def held (x : Book) (k : Nat) (c : Cm) : Book :=
 { x with fs := x.fs.set k ⟨(takeA (plAt x k).f x.next c.cl c.mn).2, (plAt x k).q⟩, l := x.l ++ [⟨x.next, c.fl, c.cl, c.mn, 1, c.tm⟩], next := x.next + 1 }
noncomputable def holdA (x : Book) (c : Cm) : Book × Rep :=
 if qL c.fl x < 0 then (x, repC 2)
 else if c.tm ≤ x.now then (x, repC 1)
 else if fullA x = true then (x, repC 3)
 else if (takeA (plAt x (qL c.fl x).toNat).f x.next c.cl c.mn).1 ≠ 0 then (x, repC (takeA (plAt x (qL c.fl x).toNat).f x.next c.cl c.mn).1)
 else (held x (qL c.fl x).toNat c, toldA (held x (qL c.fl x).toNat c) x.l.length)
def wtOf (x : Book) (c : Cm) : Wt := ⟨x.next, c.cl, c.mn, x.now, c.sc⟩
def waits (x : Book) (k : Nat) (c : Cm) : Book :=
 { x with fs := x.fs.set k ⟨(plAt x k).f, (add (wtOf x c) (plAt x k).q).2⟩, l := x.l ++ [⟨x.next, c.fl, c.cl, c.mn, 3, 0⟩], next := x.next + 1 }
noncomputable def waitA (x : Book) (c : Cm) : Book × Rep :=
 if qL c.fl x < 0 then (x, repC 2)
 else if ((plAt x (qL c.fl x).toNat).f.lims.length : Int) ≤ c.cl then (x, repC 1)
 else if fullA x = true then (x, repC 3)
 else if (add (wtOf x c) (plAt x (qL c.fl x).toNat).q).1 ≠ 0 then (x, repC (add (wtOf x c) (plAt x (qL c.fl x).toNat).q).1)
 else (promA (waits x (qL c.fl x).toNat c) (qL c.fl x).toNat, toldA (promA (waits x (qL c.fl x).toNat c) (qL c.fl x).toNat) x.l.length)
def kOf (x : Book) (i : Nat) : Nat := (qL (bkAt x i).fl x).toNat
def setFl (x : Book) (k : Nat) (m : Fl) : Book := { x with fs := x.fs.set k ⟨m, (plAt x k).q⟩ }
def setQu (x : Book) (k : Nat) (q : List Wt) : Book := { x with fs := x.fs.set k ⟨(plAt x k).f, q⟩ }
def cancelled (x : Book) (i : Nat) : Book :=
 if (bkAt x i).st = 3 then { setQu x (kOf x i) (remove (bkAt x i).id (plAt x (kOf x i)).q).2 with l := cutAt x.l i }
 else { setFl x (kOf x i) (giveA (plAt x (kOf x i)).f (bkAt x i).id).2 with l := cutAt x.l i }
def confirmed (x : Book) (i : Nat) : Book := { x with l := setUn (setSt x.l i 2) i 0 }
noncomputable def oneA (x : Book) (i : Nat) (c : Cm) : Book × Rep :=
 if c.kind = 3 then (if (bkAt x i).st ≠ 1 then (x, repC 7) else (confirmed x i, toldA (confirmed x i) i))
 else if c.kind = 4 then (promA (cancelled x i) (kOf x i), { repC 0 with pnr := c.pnr })
 else if (bkAt x i).st = 3 then (x, repC 7)
 else if c.kind = 5 then (if (seatA (plAt x (kOf x i)).f (bkAt x i).id c.lb).1 ≠ 0 then (x, repC (seatA (plAt x (kOf x i)).f (bkAt x i).id c.lb).1) else (setFl x (kOf x i) (seatA (plAt x (kOf x i)).f (bkAt x i).id c.lb).2, toldA (setFl x (kOf x i) (seatA (plAt x (kOf x i)).f (bkAt x i).id c.lb).2) i))
 else (if (autoA (plAt x (kOf x i)).f (bkAt x i).id).1 ≠ 0 then (x, repC (autoA (plAt x (kOf x i)).f (bkAt x i).id).1) else (setFl x (kOf x i) (autoA (plAt x (kOf x i)).f (bkAt x i).id).2, toldA (setFl x (kOf x i) (autoA (plAt x (kOf x i)).f (bkAt x i).id).2) i))
noncomputable def applyA (x : Book) (c : Cm) : Book × Rep :=
 if c.kind = 1 then openA x c
 else if c.kind = 2 then holdA x c
 else if c.kind = 7 then waitA x c
 else if c.kind = 8 then clockA x c.tm
 else if c.kind = 9 then (x, showA x c)
 else if (jT x c.pnr).2 ≠ 0 then (x, repC (jT x c.pnr).2)
 else oneA x (jT x c.pnr).1.toNat c
theorem leftV_bd (l s : List Int) (k : Nat) (hk : k < l.length) : 0 ≤ leftV l s k ∧ leftV l s k ≤ 10000 := by
 unfold leftV
 split
 ·rename_i h
  exact ⟨NestM.least_pos h hk, NestM.least_le hk⟩
 ·omega
theorem leftA_bd (m : Fl) : ∀ y ∈ leftA m, 0 ≤ y ∧ y ≤ 10000 := by
 intro y hy
 unfold leftA at hy
 obtain ⟨k, hk, rfl⟩ := zQ.1 hy
 exact leftV_bd _ _ _ (List.mem_range.1 hk)
theorem sellV_yes {l s : List Int} {c m : Int} (h : sellV l s c m = 0) : (0 ≤ c ∧ c < (l.length : Int)) ∧ 1 ≤ m ∧ m ≤ NestM.at_ l 0 := by
 unfold sellV at h
 split at h
 ·rename_i h1
  obtain ⟨⟨hr, hc0, hc1⟩, hm1, _⟩ := h1
  split at h
  ·rename_i h2
   obtain ⟨k, rfl⟩ := zA hc0
   have h3 := ((NestM.le_least (l := l) (s := s) (c := k) (by omega) m).1 h2).2 0 (zF _)
   have h4 := NestM.sfx_pos hr.1 0 (zF _)
   exact ⟨⟨hc0, hc1⟩, hm1, by omega⟩
  ·omega
 ·omega
theorem FlOk.take {m : Fl} (h : FlOk m) (ow cl mn : Int) : FlOk (takeA m ow cl mn).2 := by
 unfold takeA
 split
 ·exact h
 ·split
  ·exact h
  ·split
   ·rename_i h3
    obtain ⟨h4, h5, h6⟩ := sellV_yes h3
    refine ⟨h.right, h.num, h.few, h.top, fun x hx => ?_⟩
    dsimp only at hx
    simp only [zy, zO] at hx
    rcases hx with (hx | hx) | hx
    ·exact h.hold x (List.mem_of_mem_take hx)
    ·subst hx
     have := h.top
     exact ⟨h4, ⟨h5, by show mn ≤ 600; omega⟩, by show ((([] : List Int).length : Nat) : Int) ≤ mn; simp; omega, fun n hn => by cases hn⟩
    ·exact h.hold x (List.mem_of_mem_drop hx)
   ·exact h
theorem takeA_len (m : Fl) (ow cl mn : Int) : (takeA m ow cl mn).2.hs.length ≤ m.hs.length + 1 ∧ (takeA m ow cl mn).2.num = m.num ∧ (takeA m ow cl mn).2.lims = m.lims := by
 unfold takeA
 split
 ·exact ⟨by dsimp only; omega, rfl, rfl⟩
 ·split
  ·exact ⟨by dsimp only; omega, rfl, rfl⟩
  ·split
   ·refine ⟨?_, rfl, rfl⟩
    simp
    omega
   ·exact ⟨by dsimp only; omega, rfl, rfl⟩
theorem FlOk.give {m : Fl} (h : FlOk m) (ow : Int) : FlOk (giveA m ow).2 := by
 unfold giveA
 split
 ·exact h
 ·exact ⟨h.right, h.num, h.few, h.top, fun x hx => h.hold x (cutAt_mem hx)⟩
theorem giveA_len (m : Fl) (ow : Int) : (giveA m ow).2.hs.length ≤ m.hs.length ∧ (giveA m ow).2.num = m.num ∧ (giveA m ow).2.lims = m.lims := by
 unfold giveA
 split
 ·exact ⟨by dsimp only; omega, rfl, rfl⟩
 ·refine ⟨?_, rfl, rfl⟩
  unfold cutAt
  simp
  omega
theorem putG_mem (n : Int) : ∀ (l : List Int) (d : Bool) (x : Int), x ∈ putG n l d → x = n ∨ x ∈ l
 | [], d, x, h => by
  unfold putG at h
  split at h
  ·cases h
  ·left; simpa using h
 | y :: r, d, x, h => by
  unfold putG at h
  rcases zy.1 h with h | h
  ·split at h
   ·simp at h
    rcases h with h | h
    ·exact .inl h
    ·exact .inr (by simp [h])
   ·simp at h
    exact .inr (by simp [h])
  ·rcases putG_mem n r _ x h with h | h
   ·exact .inl h
   ·exact .inr (by simp [h])
theorem findF_in (a : Nat) (b : List UInt8) : ∀ (k i : Nat), (findF a b k i).2 = 0 → 0 ≤ (findF a b k i).1 ∧ (findF a b k i).1 < (i : Int) + (k : Int)
 | 0, i, h => by simp [findF] at h
 | k + 1, i, h => by
  rw [findF] at h ⊢
  split
  ·dsimp only; omega
  ·rename_i h1
   rw [zk h1] at h
   have := findF_in a b k (i + 1) h
   omega
theorem FlOk.cnt {m : Fl} (h : FlOk m) : ∃ ct : Nat, qJ m.rows m.gs = (ct : Int) := by
 obtain ⟨⟨r1, r2⟩, h2, h3, h4⟩ := rightL_of h.right
 have h0 := (sum_small m.gs (fun g hg => by have := h3 g hg; omega)).1
 have hc : qJ m.rows m.gs = m.rows * m.gs.sum := by unfold qJ; exact zl h.right
 have hn : 0 ≤ m.rows * m.gs.sum := Int.mul_nonneg (by omega) h0
 exact ⟨(qJ m.rows m.gs).toNat, by rw [hc]; omega⟩
theorem hs_at {m : Fl} {ow : Int} (h : ¬ placeA ow m.hs 0 < 0) : ∃ (k : Nat) (hk : k < m.hs.length), (placeA ow m.hs 0).toNat = k ∧ m.hs.getD (placeA ow m.hs 0).toNat ⟨0, 0, 0, []⟩ = m.hs[k] := by
 rcases placeA_cases ow m.hs 0 with h1 | ⟨k, h1, h2⟩
 ·omega
 ·rw [Nat.zero_add] at h2
  refine ⟨k, h1, by rw [h2]; rfl, ?_⟩
  rw [h2, zx]
  simp [List.getD, h1]
theorem FlOk.seat {m : Fl} (h : FlOk m) (ow : Int) (b : List UInt8) : FlOk (seatA m ow b).2 := by
 obtain ⟨ct, hct⟩ := h.cnt
 unfold seatA
 split
 ·exact h
 ·rename_i h1
  split
  ·exact h
  ·rename_i h2
   split
   ·exact h
   ·obtain ⟨k, hk, e1, e2⟩ := hs_at (fun e => h1 (.inl e))
    rw [e2] at h2 ⊢
    rw [e1]
    have hfd : (findF m.gs.sum.toNat b (qJ m.rows m.gs).toNat 0).2 = 0 := by
     by_cases hz : (findF m.gs.sum.toNat b (qJ m.rows m.gs).toNat 0).2 = 0
     ·exact hz
     ·exact absurd (.inr hz) h1
    have hin := findF_in m.gs.sum.toNat b (qJ m.rows m.gs).toNat 0 hfd
    have hh := h.hold _ (ze hk)
    refine ⟨h.right, h.num, h.few, h.top, fun x hx => ?_⟩
    dsimp only at hx
    rcases List.mem_or_eq_of_mem_set hx with hx | rfl
    ·exact h.hold x hx
    ·refine ⟨hh.1, hh.2.1, ?_, ?_⟩
     ·have h5 := putG_len (findF m.gs.sum.toNat b (qJ m.rows m.gs).toNat 0).1 m.hs[k].st false
      show ((putG _ m.hs[k].st false).length : Int) ≤ m.hs[k].mn
      omega
     ·intro n hn
      rcases putG_mem _ _ _ _ hn with rfl | hn
      ·rw [hct] at hin ⊢
       simp only [zx] at hin ⊢
       exact ⟨hin.1, by have := hin.2; omega⟩
      ·exact hh.2.2.2 n hn
theorem seatA_len (m : Fl) (ow : Int) (b : List UInt8) : (seatA m ow b).2.hs.length = m.hs.length ∧ (seatA m ow b).2.num = m.num := by
 unfold seatA
 split
 ·exact ⟨rfl, rfl⟩
 ·split
  ·exact ⟨rfl, rfl⟩
  ·split
   ·exact ⟨rfl, rfl⟩
   ·exact ⟨zz, rfl⟩
theorem FlOk.auto {m : Fl} (h : FlOk m) (ow : Int) : FlOk (autoA m ow).2 := by
 obtain ⟨ct, hct⟩ := h.cnt
 unfold autoA
 split
 ·exact h
 ·rename_i h1
  split
  ·exact h
  ·split
   ·exact h
   ·obtain ⟨k, hk, e1, e2⟩ := hs_at h1
    rw [e2, e1]
    have hh := h.hold _ (ze hk)
    refine ⟨h.right, h.num, h.few, h.top, fun x hx => ?_⟩
    dsimp only at hx
    rcases List.mem_or_eq_of_mem_set hx with hx | rfl
    ·exact h.hold x hx
    ·refine ⟨hh.1, hh.2.1, ?_, ?_⟩
     ·have h9 := hh.2.1
      have := bestF_len m.gs.sum.toNat m.gs (qI m.hs) (qJ m.rows m.gs).toNat m.hs[k].mn.toNat
      show ((bestF m.gs.sum.toNat m.gs (qI m.hs) (qJ m.rows m.gs).toNat m.hs[k].mn.toNat).2.length : Int) ≤ m.hs[k].mn
      omega
     ·intro n hn
      have h5 := bestF_mem hn
      rw [hct] at h5 ⊢
      rw [zx] at h5
      exact h5
theorem autoA_len (m : Fl) (ow : Int) : (autoA m ow).2.hs.length = m.hs.length ∧ (autoA m ow).2.num = m.num := by
 unfold autoA
 split
 ·exact ⟨rfl, rfl⟩
 ·split
  ·exact ⟨rfl, rfl⟩
  ·split
   ·exact ⟨rfl, rfl⟩
   ·exact ⟨zz, rfl⟩
theorem newA_ok {num rows : Int} {gs : List Int} {parts : List Nat} (h : ¬ (newA num rows gs parts).1 ≠ 0) : FlOk (newA num rows gs parts).2 ∧ (newA num rows gs parts).2.num = num ∧ (newA num rows gs parts).2.hs = [] := by
 unfold newA at h ⊢
 split
 ·rename_i h1
  rw [zl h1] at h
  exact absurd (by decide) h
 ·rename_i h1
  have hr : jU rows gs = true := by
   cases hb : jU rows gs with
   | true => rfl
   | false => exact absurd (.inr (.inr (.inl hb))) h1
  obtain ⟨⟨r1, r2⟩, h2, h3, h4⟩ := rightL_of hr
  have h0 := (sum_small gs (fun g hg => by have := h3 g hg; omega)).1
  have hc : qJ rows gs = rows * gs.sum := by unfold qJ; exact zl hr
  have hb : rows * gs.sum ≤ 60 * 10 := Int.mul_le_mul r2 h4 h0 (by omega)
  refine ⟨⟨hr, ?_, ?_, ?_, fun x hx => by cases hx⟩, rfl, rfl⟩
  ·dsimp only; omega
  ·dsimp only; rw [lims_len]; omega
  ·dsimp only
   have hl : 0 < (lims parts (qJ rows gs).toNat parts.length).length := by rw [lims_len]; omega
   rw [NestM.at_get hl, lims_at]
   show ((qJ rows gs).toNat : Int) ≤ 600
   omega
end
end Go.Proofs.YtnmokpbomeamfaaGreat

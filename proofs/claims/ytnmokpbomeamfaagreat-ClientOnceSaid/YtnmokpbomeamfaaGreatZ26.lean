/- Proved here, for the statement ClientOnceSaid: laws that its walk leans on. It holds with no condition. (Put together and shortened by a program out of many texts: On66, On67, On68, On69.) -/
import Derived.Test.YtnmokpbomeamfaaGreatZ25
set_option linter.unusedVariables false
set_option maxRecDepth 100000
set_option maxHeartbeats 64000000
namespace Go.Proofs.YtnmokpbomeamfaaGreat
section
open ReadM
theorem rdn_num {n most : Nat} (h : n < 18446744073709551616) (hm : n ≤ most) (rest : List UInt8) : rdn most (FieldM.num n ++ rest, false) = (n, (rest, false)) := by
 unfold rdn rd1
 dsimp only
 rw [zk (by simp), numRes_num h hm rest]
theorem rdt_text {b : List UInt8} {most : Int} (h : b.length < 18446744073709551616) (hm : (b.length : Int) ≤ most) (rest : List UInt8) : rdt most (FieldM.text b ++ rest, false) = (b, (rest, false)) := by
 unfold rdt rd1
 dsimp only
 rw [zk (by simp), textRes_text h hm rest]
theorem numsB_cons (a : Int) (l : List Int) : numsB (a :: l) = FieldM.num a.toNat ++ numsB l := by unfold numsB; rw [zq]
theorem numsB_nil : numsB [] = [] := rfl
theorem readT_told {d : Td} (h : TdB d) : readT (toldB d) = (d, 0) := by
 obtain ⟨code, client, seq, reply⟩ := d
 obtain ⟨⟨a1, a2⟩, ⟨b1, b2⟩, ⟨c1, c2⟩, d1⟩ := h
 dsimp only at a1 a2 b1 b2 c1 c2 d1
 obtain ⟨n1, rfl⟩ := zA a1
 obtain ⟨n2, rfl⟩ := zA b1
 obtain ⟨n3, rfl⟩ := zA c1
 have e : tdS (toldB ⟨(n1 : Int), (n2 : Int), (n3 : Int), reply⟩, false) = (⟨(n1 : Int), (n2 : Int), (n3 : Int), reply⟩, ([], false)) := by
  unfold tdS toldB
  dsimp only
  rw [numsB_cons, numsB_cons, numsB_cons, numsB_nil, List.append_nil]
  simp only [zx, List.append_assoc]
  rw [rdn_num (by omega) (by omega)]
  dsimp only
  rw [rdn_num (by omega) (by omega)]
  dsimp only
  rw [rdn_num (by omega) (by omega)]
  dsimp only
  have h4 := rdt_text (b := reply) (most := 65536) (by omega) (by omega) []
  rw [List.append_nil] at h4
  rw [h4]
 unfold readT
 rw [e]
 rfl
theorem reqA_enc {rq : Rq} (h : RqB rq) (hr : rightA rq = true) : reqA (encRq rq) = (rq, 0) := by
 obtain ⟨kind, client, seq, token, cmd⟩ := rq
 obtain ⟨⟨a1, a2⟩, ⟨b1, b2⟩, ⟨c1, c2⟩, ⟨d1, d2⟩, e1⟩ := h
 dsimp only at a1 a2 b1 b2 c1 c2 d1 d2 e1
 obtain ⟨n1, rfl⟩ := zA a1
 obtain ⟨n2, rfl⟩ := zA b1
 obtain ⟨n3, rfl⟩ := zA c1
 obtain ⟨n4, rfl⟩ := zA d1
 have e : reqS (encRq ⟨(n1 : Int), (n2 : Int), (n3 : Int), (n4 : Int), cmd⟩, false) = (⟨(n1 : Int), (n2 : Int), (n3 : Int), (n4 : Int), cmd⟩, ([], false)) := by
  unfold reqS encRq
  dsimp only
  rw [numsB_cons, numsB_cons, numsB_cons, numsB_cons, numsB_nil, List.append_nil]
  simp only [zx, List.append_assoc]
  rw [rdn_num (by omega) (by omega)]
  dsimp only
  rw [rdn_num (by omega) (by omega)]
  dsimp only
  rw [rdn_num (by omega) (by omega)]
  dsimp only
  rw [rdn_num (by omega) (by omega)]
  dsimp only
  have h4 := rdt_text (b := cmd) (most := 4000) (by omega) (by omega) []
  rw [List.append_nil] at h4
  rw [h4]
 unfold reqA
 rw [e]
 dsimp only
 rw [hr]
 rfl
noncomputable def stepB (x : Book) (cmd : List UInt8) : Book := if isShow cmd = true then x else (doneA x cmd).1
noncomputable def repl (x : Book) (cmd : List UInt8) : List UInt8 := if isShow cmd = true then qK (lookA x cmd) else qK (doneA x cmd).2
noncomputable def bookK (cmds : List (List UInt8)) (k : Nat) : Book := (cmds.take k).foldl stepB book0
noncomputable def repK (cmds : List (List UInt8)) (k : Nat) : List UInt8 := repl (bookK cmds k) (cmds.getD k [])
def seqK (cmds : List (List UInt8)) (k : Nat) : Nat := ((cmds.take k).filter (fun c => !isShow c)).length
theorem getD_at {cmds : List (List UInt8)} {k : Nat} (h : k < cmds.length) : cmds.getD k [] = cmds[k] := by simp [List.getD, h]
theorem bookK_succ {cmds : List (List UInt8)} {k : Nat} (h : k < cmds.length) : bookK cmds (k + 1) = stepB (bookK cmds k) (cmds.getD k []) := by
 unfold bookK
 rw [zu h, List.foldl_append, getD_at h]
 rfl
theorem seqK_succ {cmds : List (List UInt8)} {k : Nat} (h : k < cmds.length) : seqK cmds (k + 1) = seqK cmds k + (if isShow (cmds.getD k []) = true then 0 else 1) := by
 unfold seqK
 rw [zu h, List.filter_append, zg, getD_at h]
 cases hh : isShow cmds[k] <;> simp [hh]
theorem seqK_mono {cmds : List (List UInt8)} {i j : Nat} (h : i ≤ j) (hj : j ≤ cmds.length) : seqK cmds i ≤ seqK cmds j := by
 induction j with
 | zero =>
  have : i = 0 := by omega
  subst this; exact zf _
 | succ j ih =>
  rcases zL i (j + 1) with e | e
  ·have h1 := ih (by omega) (by omega)
   have h2 := seqK_succ (cmds := cmds) (k := j) (by omega)
   omega
  ·have : i = j + 1 := by omega
   subst this; exact zf _
theorem seqK_lt {cmds : List (List UInt8)} {i j : Nat} (h : i < j) (hj : j ≤ cmds.length) (hs : isShow (cmds.getD i []) = false) : seqK cmds i + 1 ≤ seqK cmds j := by
 have h1 := seqK_succ (cmds := cmds) (k := i) (by omega)
 rw [hs] at h1
 have h2 := seqK_mono (cmds := cmds) (i := i + 1) (j := j) (by omega) hj
 simp at h1
 omega
theorem seqK_le (cmds : List (List UInt8)) (k : Nat) : seqK cmds k ≤ k := by
 unfold seqK
 have h1 := List.length_filter_le (fun c => !isShow c) (cmds.take k)
 have h2 := List.length_take_le k cmds
 omega
theorem bookK_ok (cmds : List (List UInt8)) : ∀ k, k ≤ cmds.length → BookOk k (bookK cmds k)
 | 0, _ => book0_ok
 | k + 1, h => by
  have ih := bookK_ok cmds k (by omega)
  rw [bookK_succ (by omega)]
  unfold stepB
  split
  ·exact ih.more (Nat.le_succ k)
  ·exact ih.doneA _
theorem repK_le {cmds : List (List UInt8)} {k : Nat} (hk : k < cmds.length) (hN : cmds.length ≤ 100) : (repK cmds k).length ≤ 60000 := by
 have h := bookK_ok cmds k (by omega)
 unfold repK repl
 split
 ·exact answerB_le (repB_look h (by omega) _)
 ·exact answerB_le (repB_done h (by omega) _)
def rqCur (cmds : List (List UInt8)) (j num : Nat) : Rq :=
 if num = 0 then ⟨1, 0, 0, 3, []⟩ else if isShow (cmds.getD j []) = true then ⟨4, 0, 0, 0, cmds.getD j []⟩ else ⟨2, 1, (seqK cmds j : Int) + 1, 0, cmds.getD j []⟩
structure CI (cmds : List (List UInt8)) (j : Nat) (x : CSt) : Prop where
 jle : j ≤ cmds.length
 num : x.num ≤ 1
 z : x.num = 0 → j = 0
 seq : x.seq = seqK cmds j + 1
 over : x.over = true ↔ (x.num = 1 ∧ j = cmds.length)
 why : x.why = 0
theorem reqC_cur {cmds : List (List UInt8)} {j : Nat} {x : CSt} (h : CI cmds j x) : reqC cmds j x = rqCur cmds j x.num := by
 unfold reqC rqCur
 split
 ·rfl
 ·rename_i hn
  have e : x.num = 1 := by have := h.num; omega
  split
  ·rfl
  ·rw [e, h.seq]; rfl
def TI (cmds : List (List UInt8)) (j num : Nat) (st : Option (Int × List UInt8)) (bk : Book) : Prop :=
 (st = none ∧ num = 0 ∧ bk = book0) ∨
 (∃ rep, st = some ((seqK cmds j : Int), rep) ∧ rep.length ≤ 60000 ∧ bk = bookK cmds j) ∨
 (num = 1 ∧ j < cmds.length ∧ isShow (cmds.getD j []) = false ∧ st = some ((seqK cmds j : Int) + 1, repK cmds j) ∧ bk = bookK cmds (j + 1))
def PhOk (cmds : List (List UInt8)) (j num : Nat) (rq : Rq) : Prop := rq = ⟨1, 0, 0, 3, []⟩ ∨ (num = 1 ∧ ∃ i, i ≤ j ∧ i < cmds.length ∧ rq = rqCur cmds i 1)
def goodD (cmds : List (List UInt8)) (j num : Nat) (st : Option (Int × List UInt8)) (bk : Book) (d : Td) : Prop :=
 if num = 0 then d = ⟨0, 1, 0, []⟩ ∧ st ≠ none
 else if isShow (cmds.getD j []) = true then d = ⟨0, 0, 0, repK cmds j⟩
 else d = ⟨0, 1, (seqK cmds j : Int) + 1, repK cmds j⟩ ∧ st = some ((seqK cmds j : Int) + 1, repK cmds j) ∧ bk = bookK cmds (j + 1)
theorem cmd_le {cmds : List (List UInt8)} (h4 : ∀ c ∈ cmds, c.length ≤ 4000) (k : Nat) : (cmds.getD k []).length ≤ 4000 := by
 rcases zL k cmds.length with e | e
 ·rw [getD_at e]; exact h4 _ (ze e)
 ·simp [List.getD, e]
theorem ph_enc {cmds : List (List UInt8)} {j num : Nat} {rq : Rq} (hN : cmds.length ≤ 100) (h4 : ∀ c ∈ cmds, c.length ≤ 4000) (hp : PhOk cmds j num rq) : reqA (encRq rq) = (rq, 0) := by
 rcases hp with rfl | ⟨_, i, hi, hil, rfl⟩
 ·exact reqA_enc ⟨by simp, by simp, by simp, by simp, by simp⟩ rfl
 ·have hc := cmd_le h4 i
  have hs := seqK_le cmds i
  unfold rqCur
  rw [zk (by omega)]
  split
  ·exact reqA_enc ⟨by simp, by simp, by simp, by simp, hc⟩ rfl
  ·exact reqA_enc ⟨by simp, by simp, by dsimp only; omega, by simp, hc⟩ rfl
structure StepOk (cmds : List (List UInt8)) (j num : Nat) (st : Option (Int × List UInt8)) (bk : Book) (rq : Rq) : Prop where
 ti : TI cmds j num (stepT st bk rq).1 (stepT st bk rq).2.1
 good : rq = rqCur cmds j num → (num = 0 ∨ j < cmds.length) → goodD cmds j num (stepT st bk rq).1 (stepT st bk rq).2.1 (stepT st bk rq).2.2
 stay : ∀ d, goodD cmds j num st bk d → goodD cmds j num (stepT st bk rq).1 (stepT st bk rq).2.1 d
 rql : RqL st rq
 stb : StB st
 ok : ∃ n, BookOk n bk ∧ n ≤ 100 ∧ ∀ s, st = some s → rq.kind = 2 → rq.seq = s.1 + 1 → n < 100
theorem ti_stb {cmds : List (List UInt8)} {j num : Nat} {st : Option (Int × List UInt8)} {bk : Book} (hN : cmds.length ≤ 100) (hj : j ≤ cmds.length) (h : TI cmds j num st bk) : StB st := by
 have hs := seqK_le cmds j
 rcases h with ⟨rfl, _⟩ | ⟨rep, rfl, h1, _⟩ | ⟨_, h1, _, rfl, _⟩
 ·intro s e; cases e
 ·intro s e
  injection e with e
  subst e
  exact ⟨by dsimp only; omega, h1⟩
 ·intro s e
  injection e with e
  subst e
  exact ⟨by dsimp only; omega, repK_le h1 hN⟩
theorem ti_ok {cmds : List (List UInt8)} {j num : Nat} {st : Option (Int × List UInt8)} {bk : Book} (hj : j ≤ cmds.length) (h : TI cmds j num st bk) : ∃ n, BookOk n bk ∧ n ≤ cmds.length := by
 rcases h with ⟨_, _, rfl⟩ | ⟨rep, _, _, rfl⟩ | ⟨_, h1, _, _, rfl⟩
 ·exact ⟨0, book0_ok, by omega⟩
 ·exact ⟨j, bookK_ok cmds j hj, hj⟩
 ·exact ⟨j + 1, bookK_ok cmds (j + 1) (by omega), by omega⟩
theorem step_ok {cmds : List (List UInt8)} {j num : Nat} {st : Option (Int × List UInt8)} {bk : Book} {rq : Rq} (hN : cmds.length ≤ 100) (h4 : ∀ c ∈ cmds, c.length ≤ 4000) (hti : TI cmds j num st bk) (hz : num = 0 → j = 0) (hj : j ≤ cmds.length) (hp : PhOk cmds j num rq) : StepOk cmds j num st bk rq := by
 have hstb := ti_stb hN hj hti
 rcases hp with rfl | ⟨rfl, i, hi, hil, rfl⟩
 ·-- a session begun
  have e : stepT st bk ⟨1, 0, 0, 3, []⟩ = (some (st.getD (0, [])), bk, ⟨0, 1, 0, []⟩) := rfl
  obtain ⟨n, hn1, hn2⟩ := ti_ok hj hti
  refine ⟨?_, ?_, ?_, .begin, hstb, ⟨n, hn1, by omega, fun s _ h => absurd h (by decide)⟩⟩
  ·rw [e]
   rcases hti with ⟨rfl, rfl, rfl⟩ | ⟨rep, rfl, h1, h2⟩ | ⟨h1, h2, h3, rfl, h5⟩
   ·have := hz rfl
    subst this
    exact .inr (.inl ⟨[], rfl, by simp, rfl⟩)
   ·exact .inr (.inl ⟨rep, rfl, h1, h2⟩)
   ·exact .inr (.inr ⟨h1, h2, h3, rfl, h5⟩)
  ·rw [e]
   intro h1 h2
   unfold goodD
   by_cases hn : num = 0
   ·rw [zl hn]
    exact ⟨rfl, by simp⟩
   ·exfalso
    unfold rqCur at h1
    rw [zk hn] at h1
    split at h1 <;> (injection h1 with h1; omega)
  ·rw [e]
   intro d hd
   unfold goodD at hd ⊢
   by_cases hn : num = 0
   ·rw [zl hn] at hd ⊢
    exact ⟨hd.1, by simp⟩
   ·rw [zk hn] at hd ⊢
    split
    ·rename_i hs; rw [zl hs] at hd; exact hd
    ·rename_i hs
     rw [zk hs] at hd
     exact ⟨hd.1, by rw [hd.2.1]; rfl, hd.2.2⟩
 ·-- a command of phase i
  have hc := cmd_le h4 i
  have hst : ∃ s, st = some s := by
   rcases hti with ⟨_, h1, _⟩ | ⟨rep, rfl, _⟩ | ⟨_, _, _, rfl, _⟩
   ·omega
   ·exact ⟨_, rfl⟩
   ·exact ⟨_, rfl⟩
  obtain ⟨s, rfl⟩ := hst
  unfold rqCur
  rw [zk (by omega)]
  by_cases hs : isShow (cmds.getD i []) = true
  ·rw [zl hs]
   obtain ⟨n, hn1, hn2⟩ := ti_ok hj hti
   have e : stepT (some s) bk ⟨4, 0, 0, 0, cmds.getD i []⟩ = (some s, bk, ⟨0, 0, 0, qK (lookA bk (cmds.getD i []))⟩) := rfl
   refine ⟨by rw [e]; exact hti, ?_, by rw [e]; exact fun d hd => hd, .look _ hc, hstb, ⟨n, hn1, by omega, fun s _ h => absurd h (by decide : ¬ ((4 : Int) = 2))⟩⟩
   rw [e]
   intro h1 h2
   unfold rqCur at h1
   rw [zk (by omega)] at h1
   unfold goodD
   rw [zk (by omega)]
   split at h1
   ·rename_i hsj
    injection h1 with _ _ _ _ h1
    rw [zl hsj]
    rcases hti with ⟨h5, _⟩ | ⟨rep, _, _, rfl⟩ | ⟨_, _, h5, _⟩
    ·cases h5
    ·rw [h1]
     unfold repK repl
     rw [zl hsj]
    ·rw [hsj] at h5; cases h5
   ·injection h1 with h1; omega
  ·have hsf : isShow (cmds.getD i []) = false := by simpa using hs
   rw [zk hs]
   have e : stepT (some s) bk ⟨2, 1, (seqK cmds i : Int) + 1, 0, cmds.getD i []⟩ = (some (doS s bk ((seqK cmds i : Int) + 1) (cmds.getD i [])).1, (doS s bk ((seqK cmds i : Int) + 1) (cmds.getD i [])).2.1, (doS s bk ((seqK cmds i : Int) + 1) (cmds.getD i [])).2.2) := rfl
   have hm := seqK_mono hi hj
   rcases hti with ⟨h5, _⟩ | ⟨rep, h5, h6, rfl⟩ | ⟨_, hjl, hsj, h5, rfl⟩
   ·cases h5
   ·injection h5 with h5
    subst h5
    by_cases hij : i = j
    ·subst hij
     have ed : doS ((seqK cmds i : Int), rep) (bookK cmds i) ((seqK cmds i : Int) + 1) (cmds.getD i []) = (((seqK cmds i : Int) + 1, qK (doneA (bookK cmds i) (cmds.getD i [])).2), (doneA (bookK cmds i) (cmds.getD i [])).1, ⟨0, 1, (seqK cmds i : Int) + 1, qK (doneA (bookK cmds i) (cmds.getD i [])).2⟩) := by
      unfold doS
      dsimp only
      rw [zk (by omega), zk (by omega)]
     have er : qK (doneA (bookK cmds i) (cmds.getD i [])).2 = repK cmds i := by unfold repK repl; rw [zk hs]
     have eb : (doneA (bookK cmds i) (cmds.getD i [])).1 = bookK cmds (i + 1) := by rw [bookK_succ hil]; unfold stepB; rw [zk hs]
     rw [er, eb] at ed
     refine ⟨?_, ?_, ?_, .do_ _ rfl _ (by omega) (by dsimp only; omega) _ hc, hstb, ⟨i, bookK_ok cmds i (by omega), by omega, fun _ _ _ _ => by omega⟩⟩
     ·rw [e, ed]
      exact .inr (.inr ⟨rfl, hil, hsf, rfl, rfl⟩)
     ·intro _ _
      rw [e, ed]
      unfold goodD
      rw [zk (by omega), zk hs]
      exact ⟨rfl, rfl, rfl⟩
     ·intro d hd
      unfold goodD at hd
      rw [zk (by omega), zk hs] at hd
      have h7 := hd.2.1
      injection h7 with h7
      injection h7 with h7
      omega
    ·have hlt := seqK_lt (cmds := cmds) (i := i) (j := j) (by omega) hj hsf
     have ed : (doS ((seqK cmds j : Int), rep) (bookK cmds j) ((seqK cmds i : Int) + 1) (cmds.getD i [])).1 = ((seqK cmds j : Int), rep) ∧ (doS ((seqK cmds j : Int), rep) (bookK cmds j) ((seqK cmds i : Int) + 1) (cmds.getD i [])).2.1 = bookK cmds j := by
      unfold doS
      dsimp only
      split
      ·exact ⟨rfl, rfl⟩
      ·rw [zl (by omega)]
       exact ⟨rfl, rfl⟩
     refine ⟨?_, ?_, ?_, .do_ _ rfl _ (by omega) (by dsimp only; omega) _ hc, hstb, ⟨j, bookK_ok cmds j hj, by omega, fun s' hs' _ hq => ?_⟩⟩
     ·rw [e]
      dsimp only
      rw [ed.1, ed.2]
      exact .inr (.inl ⟨rep, rfl, h6, rfl⟩)
     ·intro h1 _
      exfalso
      unfold rqCur at h1
      rw [zk (by omega)] at h1
      split at h1
      ·injection h1 with h1; omega
      ·injection h1 with _ _ h1; omega
     ·intro d hd
      rw [e]
      dsimp only
      rw [ed.1, ed.2]
      exact hd
     ·injection hs' with hs'
      subst hs'
      dsimp only at hq
      omega
   ·injection h5 with h5
    subst h5
    have ed : (doS ((seqK cmds j : Int) + 1, repK cmds j) (bookK cmds (j + 1)) ((seqK cmds i : Int) + 1) (cmds.getD i [])).1 = ((seqK cmds j : Int) + 1, repK cmds j) ∧ (doS ((seqK cmds j : Int) + 1, repK cmds j) (bookK cmds (j + 1)) ((seqK cmds i : Int) + 1) (cmds.getD i [])).2.1 = bookK cmds (j + 1) := by
     unfold doS
     dsimp only
     split
     ·exact ⟨rfl, rfl⟩
     ·rw [zl (by omega)]
      exact ⟨rfl, rfl⟩
    refine ⟨?_, ?_, ?_, .do_ _ rfl _ (by omega) (by dsimp only; omega) _ hc, hstb, ⟨j + 1, bookK_ok cmds (j + 1) (by omega), by omega, fun s' hs' _ hq => ?_⟩⟩
    ·rw [e]
     dsimp only
     rw [ed.1, ed.2]
     exact .inr (.inr ⟨rfl, hjl, hsj, rfl, rfl⟩)
    ·intro h1 _
     unfold rqCur at h1
     rw [zk (by omega), zk (by rw [hsj]; simp)] at h1
     injection h1 with _ _ h1
     rw [e]
     dsimp only
     rw [ed.1, ed.2]
     unfold goodD
     rw [zk (by omega), zk (by rw [hsj]; simp)]
     refine ⟨?_, rfl, rfl⟩
     unfold doS
     dsimp only
     rw [zl h1]
    ·intro d hd
     rw [e]
     dsimp only
     rw [ed.1, ed.2]
     exact hd
    ·injection hs' with hs'
     subst hs'
     dsimp only at hq
     omega
end
section
structure An where
 token : Int
 code : Int
 b : List UInt8
structure Sys (cmds : List (List UInt8)) (j : Nat) (x : CSt) (op : List Int) (st : Option (Int × List UInt8)) (bk : Book) (sent : List (Int × List UInt8)) (ans : List An) : Prop where
 ci : CI cmds j x
 ti : TI cmds j x.num st bk
 ov : x.over = true → op = []
 se : ∀ s ∈ sent, (0 ≤ s.1 ∧ s.1 < 3145728 + (x.gv : Int)) ∧ ∃ rq, s.2 = encRq rq ∧ PhOk cmds j x.num rq ∧ (s.1 ∈ op → rq = rqCur cmds j x.num)
 an : ∀ a ∈ ans, (0 ≤ a.token ∧ a.token < 3145728 + (x.gv : Int)) ∧ ((a.code = 7 ∧ a.b = []) ∨ (a.code = 0 ∧ ∃ d, a.b = toldB d ∧ TdB d ∧ (a.token ∈ op → goodD cmds j x.num st bk d)))
section
variable {cmds : List (List UInt8)} {j : Nat} {x : CSt} {op : List Int} {st : Option (Int × List UInt8)} {bk : Book} {sent : List (Int × List UInt8)} {ans : List An}
theorem Sys.go (h : Sys cmds j x op st bk sent ans) (ho : x.over = false) : x.num = 0 ∨ j < cmds.length := by
 by_cases hn : x.num = 0
 ·exact .inl hn
 ·right
  have h1 := h.ci.num
  have h2 := h.ci.jle
  rcases zL j cmds.length with e | e
  ·exact e
  ·have h3 := h.ci.over.2 ⟨by omega, by omega⟩
   rw [ho] at h3
   cases h3
theorem ph_cur (h : Sys cmds j x op st bk sent ans) (ho : x.over = false) : PhOk cmds j x.num (rqCur cmds j x.num) := by
 by_cases hn : x.num = 0
 ·rw [hn]; exact .inl rfl
 ·have h1 := h.ci.num
  have e : x.num = 1 := by omega
  rw [e]
  rcases h.go ho with h2 | h2
  ·omega
  ·exact .inr ⟨rfl, j, zf _, h2, rfl⟩
theorem CI.move {x' : CSt} (h : CI cmds j x) (h1 : x'.num = x.num) (h2 : x'.seq = x.seq) (h3 : x'.over = x.over) (h4 : x'.why = x.why) : CI cmds j x' :=
 ⟨h.jle, by rw [h1]; exact h.num, by rw [h1]; exact h.z, by rw [h2]; exact h.seq, by rw [h1, h3]; exact h.over, by rw [h4]; exact h.why⟩
theorem Sys.move {x' : CSt} (h : Sys cmds j x op st bk sent ans) (h1 : x'.num = x.num) (h2 : x'.seq = x.seq) (h3 : x'.over = x.over) (h4 : x'.why = x.why) (h5 : x'.gv = x.gv) : Sys cmds j x' op st bk sent ans := by
 refine ⟨h.ci.move h1 h2 h3 h4, by rw [h1]; exact h.ti, by rw [h3]; exact h.ov, ?_, ?_⟩
 ·intro s hs
  rw [h1, h5]
  exact h.se s hs
 ·intro a ha
  rw [h1, h5]
  exact h.an a ha
theorem Sys.tick (h : Sys cmds j x op st bk sent ans) (n : Nat) : Sys cmds j (tickC n x) op st bk sent ans := by
 unfold tickC
 split
 ·exact h
 ·split
  ·exact h.move rfl rfl rfl rfl rfl
  ·exact h.move rfl rfl rfl rfl rfl
theorem Sys.want (h : Sys cmds j x op st bk sent ans) (ho : x.over = false) : Sys cmds j { x with gv := x.gv + 1 } ((3145728 + (x.gv : Int)) :: op) st bk (sent ++ [(3145728 + (x.gv : Int), encRq (rqCur cmds j x.num))]) ans := by
 refine ⟨h.ci.move rfl rfl rfl rfl, h.ti, fun e => ?_, ?_, ?_⟩
 ·dsimp only at e
  rw [ho] at e
  cases e
 ·intro s hs
  rcases zy.1 hs with hs | hs
  ·obtain ⟨⟨h1, h2⟩, rq, h3, h4, h5⟩ := h.se s hs
   refine ⟨⟨h1, by dsimp only; omega⟩, rq, h3, h4, fun e => ?_⟩
   rcases zU.1 e with e | e
   ·omega
   ·exact h5 e
  ·rw [zO.1 hs]
   exact ⟨⟨by dsimp only; omega, by dsimp only; omega⟩, _, rfl, (by have k := ph_cur h ho; exact k), fun _ => rfl⟩
 ·intro a ha
  obtain ⟨⟨h1, h2⟩, h3⟩ := h.an a ha
  refine ⟨⟨h1, by dsimp only; omega⟩, ?_⟩
  rcases h3 with h3 | ⟨h3, d, h4, h5, h6⟩
  ·exact .inl h3
  ·refine .inr ⟨h3, d, h4, h5, fun e => ?_⟩
   rcases zU.1 e with e | e
   ·omega
   ·exact h6 e
theorem Sys.refuse (h : Sys cmds j x op st bk sent ans) (tok : Int) (ht : 0 ≤ tok ∧ tok < 3145728 + (x.gv : Int)) : Sys cmds j x op st bk sent (ans ++ [⟨tok, 7, []⟩]) := by
 refine ⟨h.ci, h.ti, h.ov, h.se, fun a ha => ?_⟩
 rcases zy.1 ha with ha | ha
 ·exact h.an a ha
 ·rw [zO.1 ha]
  exact ⟨ht, .inl ⟨rfl, rfl⟩⟩
theorem Sys.done (h : Sys cmds j x op st bk sent ans) (hN : cmds.length ≤ 100) (h4 : ∀ c ∈ cmds, c.length ≤ 4000) (s : Int × List UInt8) (hs : s ∈ sent) :
 ∃ rq, s.2 = encRq rq ∧ reqA (encRq rq) = (rq, 0) ∧ StepOk cmds j x.num st bk rq ∧ TdB (stepT st bk rq).2.2 ∧ Sys cmds j x op (stepT st bk rq).1 (stepT st bk rq).2.1 sent (ans ++ [⟨s.1, 0, toldB (stepT st bk rq).2.2⟩]) := by
 obtain ⟨ht, rq, h1, h2, h3⟩ := h.se s hs
 have hst := step_ok hN h4 h.ti h.ci.z h.ci.jle h2
 obtain ⟨n, n1, n2, n3⟩ := hst.ok
 have htd := stepT_td hst.rql hst.stb n1 n2 n3
 refine ⟨rq, h1, ph_enc hN h4 h2, hst, htd, ⟨h.ci, hst.ti, h.ov, h.se, fun a ha => ?_⟩⟩
 rcases zy.1 ha with ha | ha
 ·obtain ⟨k1, k2⟩ := h.an a ha
  refine ⟨k1, ?_⟩
  rcases k2 with k2 | ⟨k2, d, k3, k4, k5⟩
  ·exact .inl k2
  ·exact .inr ⟨k2, d, k3, k4, fun e => hst.stay d (k5 e)⟩
 ·rw [zO.1 ha]
  refine ⟨ht, .inr ⟨rfl, _, rfl, htd, fun e => ?_⟩⟩
  dsimp only at e
  have ho : x.over = false := by
   cases hx : x.over with
   | false => rfl
   | true => rw [h.ov hx] at e; cases e
  exact hst.good (h3 e) (h.go ho)
theorem goodD_reply {d : Td} {num : Nat} (hn : num ≠ 0) (h : goodD cmds j num st bk d) : d.reply = repK cmds j := by
 unfold goodD at h
 rw [zk hn] at h
 split at h
 ·rw [h]
 ·rw [h.1]
theorem goodD_code {d : Td} {num : Nat} (h : goodD cmds j num st bk d) : d.code = 0 ∧ (num = 0 → d.client = 1) ∧ ((rqCur cmds j num).kind ≠ 2 ∨ (d.client = (rqCur cmds j num).client ∧ d.seq = (rqCur cmds j num).seq)) := by
 unfold goodD at h
 unfold rqCur
 by_cases hn : num = 0
 ·rw [zl hn] at h ⊢
  rw [h.1]
  exact ⟨rfl, fun _ => rfl, .inl (by decide)⟩
 ·rw [zk hn] at h ⊢
  split
  ·rename_i hs
   rw [zl hs] at h
   rw [h]
   exact ⟨rfl, fun e => absurd e hn, .inl (show ¬ ((4 : Int) = 2) by decide)⟩
  ·rename_i hs
   rw [zk hs] at h
   rw [h.1]
   exact ⟨rfl, fun e => absurd e hn, .inr ⟨rfl, rfl⟩⟩
theorem cur_kind (hx : x.num ≤ 1) : (rqCur cmds j x.num).kind = (if x.num = 0 then 1 else if isShow (cmds.getD j []) = true then 4 else 2) := by
 unfold rqCur
 split
 ·rfl
 ·split <;> rfl
theorem Sys.told (h : Sys cmds j x op st bk sent ans) (hN : cmds.length ≤ 100) (ho : x.over = false) {d : Td} (hd : goodD cmds j x.num st bk d) :
 Sys cmds (toldX x cmds.length j (rqCur cmds j x.num).kind).2 (toldX x cmds.length j (rqCur cmds j x.num).kind).1 [] st bk sent ans := by
 obtain ⟨a, wt, num, seq, gv, over, why⟩ := x
 dsimp only at ho hd ⊢
 subst ho
 have hci := h.ci
 have hgo := h.go rfl
 have hnum := hci.num
 have hseq := hci.seq
 have hwhy := hci.why
 dsimp only at hnum hgo hseq hwhy
 have hti := h.ti
 dsimp only at hti
 have key : ∀ (j' : Nat) (x' : CSt), j ≤ j' → (num = 0 → x'.num = 1) → (num = 1 → x'.num = 1) → x'.gv = gv → CI cmds j' x' → TI cmds j' x'.num st bk → Sys cmds j' x' [] st bk sent ans := by
  intro j' x' hj h0 h1 hg hc ht
  have e1 : x'.num = 1 := by
   rcases Nat.eq_zero_or_pos num with e | e
   ·exact h0 e
   ·exact h1 (by omega)
  refine ⟨hc, ht, fun _ => rfl, ?_, ?_⟩
  ·intro s hs
   obtain ⟨k1, rq, k2, k3, _⟩ := h.se s hs
   rw [hg]
   refine ⟨k1, rq, k2, ?_, fun e => by cases e⟩
   rcases k3 with k3 | ⟨k3, i, k4, k5, k6⟩
   ·exact .inl k3
   ·exact .inr ⟨e1, i, by omega, k5, k6⟩
  ·intro b hb
   obtain ⟨k1, k2⟩ := h.an b hb
   rw [hg]
   refine ⟨k1, ?_⟩
   rcases k2 with k2 | ⟨k2, d, k3, k4, _⟩
   ·exact .inl k2
   ·exact .inr ⟨k2, d, k3, k4, fun e => by cases e⟩
 have hk := cur_kind (cmds := cmds) (j := j) (x := ⟨a, wt, num, seq, gv, false, why⟩) hnum
 dsimp only at hk
 rw [hk]
 by_cases hn : num = 0
 ·subst hn
  have hz : j = 0 := hci.z rfl
  subst hz
  rw [zl rfl]
  unfold goodD at hd
  rw [zl rfl] at hd
  have ht1 : TI cmds 0 1 st bk := by
   rcases hti with ⟨e, _⟩ | e | ⟨e, _⟩
   ·exact absurd e hd.2
   ·exact .inr (.inl e)
   ·omega
  have e : toldX ⟨a, wt, 0, seq, gv, false, why⟩ cmds.length 0 1 = (if 0 = cmds.length then ⟨a, 0, 1, seq, gv, true, 0⟩ else ⟨a, 0, 1, seq, gv, false, why⟩, 0) := rfl
  rw [e]
  by_cases hf : 0 = cmds.length
  ·rw [zl hf]
   exact key 0 _ (zf _) (fun _ => rfl) (fun _ => rfl) rfl ⟨zF _, zf _, (fun e => by cases e), hseq, ⟨fun _ => ⟨rfl, hf⟩, fun _ => rfl⟩, rfl⟩ ht1
  ·rw [zk hf]
   exact key 0 _ (zf _) (fun _ => rfl) (fun _ => rfl) rfl ⟨zF _, zf _, (fun e => by cases e), hseq, ⟨fun e => (by cases e), fun e => absurd e.2 hf⟩, hwhy⟩ ht1
 ·have e1 : num = 1 := by omega
  subst e1
  have hjl : j < cmds.length := by omega
  rw [zk hn]
  unfold goodD at hd
  rw [zk hn] at hd
  have hs := seqK_succ hjl
  have hb := bookK_succ hjl
  by_cases hsh : isShow (cmds.getD j []) = true
  ·rw [zl hsh]
   rw [zl hsh] at hs
   have ht1 : TI cmds (j + 1) 1 st bk := by
    rcases hti with ⟨_, e, _⟩ | ⟨rep, k1, k2, k3⟩ | ⟨_, _, k1, _⟩
    ·omega
    ·refine .inr (.inl ⟨rep, ?_, k2, ?_⟩)
     ·rw [k1, hs]; rfl
     ·rw [k3, hb]; unfold stepB; rw [zl hsh]
    ·rw [hsh] at k1; cases k1
   have e : toldX ⟨a, wt, 1, seq, gv, false, why⟩ cmds.length j 4 = (if j + 1 = cmds.length then ⟨a, 0, 1, seq, gv, true, 0⟩ else ⟨a, 0, 1, seq, gv, false, why⟩, j + 1) := rfl
   rw [e]
   by_cases hf : j + 1 = cmds.length
   ·rw [zl hf]
    exact key (j + 1) _ (by omega) (fun _ => rfl) (fun _ => rfl) rfl ⟨by omega, zf _, (fun e => by cases e), by dsimp only; omega, ⟨fun _ => ⟨rfl, hf⟩, fun _ => rfl⟩, rfl⟩ ht1
   ·rw [zk hf]
    exact key (j + 1) _ (by omega) (fun _ => rfl) (fun _ => rfl) rfl ⟨by omega, zf _, (fun e => by cases e), by dsimp only; omega, ⟨fun e => (by cases e), fun e => absurd e.2 hf⟩, hwhy⟩ ht1
  ·rw [zk hsh]
   rw [zk hsh] at hs hd
   obtain ⟨_, hd2, hd3⟩ := hd
   have ht1 : TI cmds (j + 1) 1 st bk := by
    refine .inr (.inl ⟨repK cmds j, ?_, ?_, hd3⟩)
    ·rw [hd2, hs]; rfl
    ·rcases hti with ⟨_, e, _⟩ | ⟨rep, k1, k2, _⟩ | ⟨_, _, _, _, _⟩
     ·omega
     ·rw [hd2] at k1
      injection k1 with k1
      injection k1 with _ k1
      rw [k1]; exact k2
     ·exact repK_le hjl hN
   have e : toldX ⟨a, wt, 1, seq, gv, false, why⟩ cmds.length j 2 = (if j + 1 = cmds.length then ⟨a, 0, 1, seq + 1, gv, true, 0⟩ else ⟨a, 0, 1, seq + 1, gv, false, why⟩, j + 1) := rfl
   rw [e]
   by_cases hf : j + 1 = cmds.length
   ·rw [zl hf]
    exact key (j + 1) _ (by omega) (fun _ => rfl) (fun _ => rfl) rfl ⟨by omega, zf _, (fun e => by cases e), by dsimp only; omega, ⟨fun _ => ⟨rfl, hf⟩, fun _ => rfl⟩, rfl⟩ ht1
   ·rw [zk hf]
    exact key (j + 1) _ (by omega) (fun _ => rfl) (fun _ => rfl) rfl ⟨by omega, zf _, (fun e => by cases e), by dsimp only; omega, ⟨fun e => (by cases e), fun e => absurd e.2 hf⟩, hwhy⟩ ht1
theorem toldX_reps (x : CSt) (kn rn : Nat) (kind : Int) : (toldX x kn rn kind).2 = if kind = 1 then rn else rn + 1 := rfl
end
theorem sys_start (cmds : List (List UInt8)) : Sys cmds 0 x0 [] none book0 [] [] :=
 ⟨⟨zF _, by decide, fun _ => rfl, rfl, ⟨fun e => (by cases e), fun e => by have := e.1; exact absurd this (by decide)⟩, rfl⟩, .inl ⟨rfl, rfl, rfl⟩, fun e => (by cases e), fun s hs => (by cases hs), fun a ha => (by cases ha)⟩
end
section
open Go.RowKit
structure BsL (w : World) (B : Nat) (v : Value) (ms : List BsM) : Prop where
 sl : Sl w B 39 1 v ms.length (ms.map BsM.v)
 el : ∀ m ∈ ms, bsE w m
theorem BsL.fresh {w w' : World} {B : Nat} {v : Value} {ms : List BsM} (h : BsL w B v ms) (F : Fresh w w') : BsL w' B v ms := ⟨h.sl.fresh F, fun m hm => (h.el m hm).fresh F⟩
def RepsP (w : World) (bs : List (List UInt8)) (e : Ending) (w' : World) : Prop := ∃ v ms, e = .returned v ∧ BsL w' w.heap.size v ms ∧ ms.map lenB = bs ∧ Fresh w w'
theorem replies_c (w : World) (B : Nat) (L : CL) (l : List Int) (ks rs : List BsM) (x : CSt) (op : List Int) (h : Cc w B L l ks rs x op) (hr : rs.length ≤ 1000) (h6 : ∀ m ∈ rs, m.b.length ≤ 100000) :
 Calls Tryz.prog 30 #[.pointer (some ⟨L.b, 0, none⟩)] w fun e w' => RepsP w (rs.map lenB) e w' := by
 obtain ⟨i0, hi0, hz0, hz1, hz2⟩ := info_parts info_bs
 have HC := zh h
 have H6 := zh h6
 have y9 : w.cell? ⟨L.b, 9, none⟩ = some (.slice L.RA rs.length L.rc) := h.blk.cell 9
 clear h h6
 go_in
 go_wp2_with fail
 go_loopw [3, 11] (fun v3 v11 wr => ∃ (k : Nat) (ms : List BsM), k ≤ rs.length ∧ v11 = .int .i64 (k : Int) ∧ ms.map lenB = (rs.take k).map lenB ∧ BsL wr w.heap.size v3 ms ∧ Fresh w wr) (fun _ v11 _ => rs.length - (intOf v11).toNat)
 case atStart => exact ⟨0, [], by omega, rfl, rfl, ⟨Sl.nil _ _ _ _, fun m hm => by cases hm⟩, za _ _⟩
 case round =>
  obtain ⟨k, ms, hk, rfl, hms, hbl, hf⟩ := hrel
  have hk0 : (0 : Int) ≤ (k : Int) := by omega
  have hml : ms.length = k := by have := congrArg List.length hms; rw [zB, zB, zw] at this; omega
  have HML := zh hml
  have HMS := zh hms
  have HBL := zh hbl
  have HF := zh hf
  obtain ⟨A3, c3, rfl, _⟩ := hbl.sl.shape
  rw [hml]
  clear hms hbl hf hml
  by_cases hlt : k < rs.length
  ·have hlti : (k : Int) < (rs.length : Int) := by omega
   have d1 : decide ((k : Int) < (rs.length : Int)) = true := zc hlti
   obtain ⟨bR, oR, hRA, _, hx⟩ := (HC.out.fresh HF.out).rsl.rd.at_ (k := k) (by simpa using hlt)
   rw [List.getElem_map] at hx
   have HE := zh ((HC.out.fresh HF.out).rel _ (ze hlt))
   have h6k := H6.out _ (ze hlt)
   have HTK : Hid ((rs.take (k + 1)).map lenB = ms.map lenB ++ [rs[k].b]) := zh (by rw [zu hlt, zn, HMS.out]; rfl)
   generalize rs[k] = m at hx HE h6k HTK
   obtain ⟨mA, mc, mb⟩ := m
   unfold BsM.v at hx
   dsimp only at hx h6k HTK
   obtain ⟨A', c', ee, hc1, hc2, _⟩ := Sl.shape HE.out
   injection ee with e1 _ e3
   dsimp only at e1 e3 hc1
   subst e1 e3
   have HCN := zh (rd_clone_any wr wr.heap.size mA mc mb (Sl.rd HE.out) (zf _) (by omega) hc1 hc2)
   rw [hRA]
   clear hc1 hc2
   go_wp2_with fail
   refine HCN.out.mono ?_
   rintro e w3 ⟨v4, rfl, hs4, f4⟩
   obtain ⟨A4, c4, rfl, _⟩ := hs4.shape
   have HE4 : Hid (bsE w3 ⟨A4, c4, mb⟩) := zh (hs4.less (zF _))
   have HF4 := zh (HF.out.trans f4)
   have HB4 := zh (HBL.out.fresh f4)
   have hsz : w.heap.size ≤ (w3.alloc (.cells #[.slice A4 mb.length c4] 39)).heap.size := by have := HF4.out.size; simp; omega
   have HS4 : Hid (Sl (w3.alloc (.cells #[.slice A4 mb.length c4] 39)) w.heap.size 39 1 (.slice A3 k c3) k (ms.map BsM.v)) := zh (by have h := HB4.out.sl.alloc (.cells #[.slice A4 mb.length c4] 39); rw [HML.out] at h; exact h)
   clear hs4 f4
   go_wp2_with (at_builtin; refine jD _ rfl (.tmp 15) (.tmp 18) _ rfl w.heap.size 39 i0 _ 1 24 Tryz.underlying22 hi0 hz0 hz1 hz2 rfl (by omega) _ k _ rfl HS4.out _ _ 1 1 _ rfl rfl (qE w3 _ _) (fun u hu => by simp at hu; subst hu; rfl) (by unfold maxLen; omega) (by omega) hsz ?_; intro v5 w5 hs5 hf5 _)
   have HF5 : Hid (Fresh w w5) := zh ((HF4.out.trans (jC _ _)).trans' hf5 (fun k' hk' e => by have := (HS4.out.lt _ e).1; omega))
   have HB5 : Hid (BsL w5 w.heap.size v5 (ms ++ [⟨A4, c4, mb⟩])) := zh (by
    refine ⟨?_, fun m hm => ?_⟩
    ·rw [zg, zn, HML.out]
     exact hs5
    ·rcases zy.1 hm with hm | hm
     ·exact bsE.frm ((HB4.out.el m hm).fresh (jC _ _)) hf5 (fun k' cs hb e => HS4.out.apart hb (by decide) e)
     ·rw [zO.1 hm]
      exact bsE.frm (HE4.out.fresh (jC _ _)) hf5 (fun k' cs hb e => HS4.out.apart hb (by decide) e))
   clear hs5 hf5
   go_roundw
   case rel => exact ⟨k + 1, ms ++ [⟨A4, c4, mb⟩], by omega, by go_num, by rw [HTK.out, zn]; rfl, HB5.out, HF5.out⟩
   case measure => simp [intOf]; omega
  ·have hlti : ¬ (k : Int) < (rs.length : Int) := by omega
   have d1 : decide ((k : Int) < (rs.length : Int)) = false := zb hlti
   have HE : Hid (ms.map lenB = rs.map lenB) := zh (by rw [HMS.out, zD (by omega)])
   go_wp2_with fail
   go_ret
   have hfin : BsL wr w.heap.size (.slice A3 k c3) ms := by have h := HBL.out; rw [HML.out] at h; exact h
   exact ⟨_, ms, rfl, hfin, HE.out, HF.out⟩
theorem sameAll_c (w : World) (A1 A2 : Option Addr) (c1 c2 : Nat) (la lb : List BsM) (h1 : Rd w w.heap.size A1 (la.map BsM.v)) (h2 : Rd w w.heap.size A2 (lb.map BsM.v)) (e1 : ∀ m ∈ la, bsE w m) (e2 : ∀ m ∈ lb, bsE w m) (he : la.map lenB = lb.map lenB) (hl : la.length ≤ 1000) :
 Calls Tryz.prog 32 #[.slice A1 la.length c1, .slice A2 la.length c2] w fun e w' => e = .returned (.bool true) ∧ Fresh w w' := by
 have hlen : lb.length = la.length := by have := congrArg List.length he; rw [zB, zB] at this; exact this.symm
 have H1 : Hid (∀ w', Fresh w w' → Rd w' w'.heap.size A1 (la.map BsM.v)) := zh fun w' F => (h1.fresh (zf _) F).more F.size
 have H2 : Hid (∀ w', Fresh w w' → Rd w' w'.heap.size A2 (lb.map BsM.v)) := zh fun w' F => (h2.fresh (zf _) F).more F.size
 have E1 := zh e1
 have E2 := zh e2
 have HE := zh he
 have HLN := zh hlen
 clear h1 h2 e1 e2 he hlen
 go_in
 go_wp2_with fail
 go_loopw [5] (fun v5 wr => ∃ k : Nat, k ≤ la.length ∧ v5 = .int .i64 (k : Int) ∧ Fresh w wr) (fun v5 _ => la.length - (intOf v5).toNat)
 case atStart => exact ⟨0, by omega, rfl, za _ _⟩
 case round =>
  obtain ⟨k, hk, rfl, hf⟩ := hrel
  have HF := zh hf
  have hk0 : (0 : Int) ≤ (k : Int) := by omega
  clear hf
  by_cases hlt : k < la.length
  ·have hlti : (k : Int) < (la.length : Int) := by omega
   have d1 : decide ((k : Int) < (la.length : Int)) = true := zc hlti
   have hlt2 : k < lb.length := by have := HLN.out; omega
   have heq : la[k].b = lb[k].b := by
    have h := HE.out
    have h3 : (la.map lenB)[k]'(by simpa using hlt) = (lb.map lenB)[k]'(by simpa using hlt2) := by simp only [h]
    rw [List.getElem_map, List.getElem_map] at h3
    exact h3
   obtain ⟨ba, oa, hA1, _, hx⟩ := (H1.out wr HF.out).at_ (k := k) (by simpa using hlt)
   obtain ⟨bb, ob, hA2, _, hy⟩ := (H2.out wr HF.out).at_ (k := k) (by simpa using hlt2)
   rw [List.getElem_map] at hx hy
   have HA := zh (E1.out _ (ze hlt))
   have HB := zh (E2.out _ (ze hlt2))
   generalize la[k] = m1 at hx heq HA
   generalize lb[k] = m2 at hy heq HB
   obtain ⟨a1, a2, cb⟩ := m1
   obtain ⟨b1, b2, cb2⟩ := m2
   dsimp only at heq
   subst heq
   unfold BsM.v at hx hy
   dsimp only at hx hy
   obtain ⟨nb, hnb⟩ : ∃ n, n = cb.length := ⟨_, rfl⟩
   rw [← hnb] at hx hy
   have HCV : Hid (∀ w', Fresh wr w' → w'.cell? ⟨ba, oa + k, none⟩ = some (.slice a1 nb a2) ∧ w'.cell? ⟨bb, ob + k, none⟩ = some (.slice b1 nb b2) ∧ (convert 39 9 (.slice a1 nb a2)).run Tryz.prog w' = .ok (.string (str cb)) w' ∧ (convert 39 9 (.slice b1 nb b2)).run Tryz.prog w' = .ok (.string (str cb)) w') := zh fun w' F => by
    have la1 : ba < wr.heap.size := by assumption
    have lb1 : bb < wr.heap.size := by assumption
    exact ⟨by rw [F.cell la1 (fun f => f)]; exact hx, by rw [F.cell lb1 (fun f => f)]; exact hy,
     conv_bytes 39 9 5 rfl rfl rfl a2 (Sl.rd (HA.out.fresh (HF.out.trans F))) hnb, conv_bytes 39 9 5 rfl rfl rfl b2 (Sl.rd (HB.out.fresh (HF.out.trans F))) hnb⟩
   subst hA1 hA2
   clear hx hy hnb
   go_upto_region 6 with fail
   refine zj (S := (fun w' => w'.cell? ⟨ba, oa + k, none⟩ = some (.slice a1 nb a2) ∧ w'.cell? ⟨bb, ob + k, none⟩ = some (.slice b1 nb b2) ∧ (convert 39 9 (.slice a1 nb a2)).run Tryz.prog w' = .ok (.string (str cb)) w' ∧ (convert 39 9 (.slice b1 nb b2)).run Tryz.prog w' = .ok (.string (str cb)) w')) (by kernel_rfl) (HCV.out _ (za _ _).drew) (fun hHeld => ?_)
   iterate 11 ((first | refine ztn (v := ?_) (zo rfl) ?_ | refine ztz (v := ?_) (zo rfl) ?_); try simp only [Act.put, zT, zZ, zS])
   refine wpAnyH_done (by kernel_rfl) ?_ _
   go_wp2_with fail
   go_roundw
   case rel => exact ⟨k + 1, by omega, by go_num, HF.out.drew⟩
   case measure => simp [intOf]; omega
  ·have hlti : ¬ (k : Int) < (la.length : Int) := by omega
   have d1 : decide ((k : Int) < (la.length : Int)) = false := zb hlti
   go_wp2_with fail
   go_ret
   exact ⟨rfl, HF.out⟩
theorem oth_no {w : World} {k : Nat} {t : TypeId} {cs : Array Value} {S : Nat → Prop} {T : TypeId → Bool} (hb : Blk w k t cs) (hT : T t = true) (hS : ∀ k, S k → ∀ t cs, Blk w k t cs → T t = false) : ¬ S k := fun s => by
 have := hS k s t cs hb
 rw [hT] at this
 cases this
theorem oth_sl {w : World} {B e size n k : Nat} {v : Value} {xs : List Value} {S : Nat → Prop} {T : TypeId → Bool} (hs : Sl w B e size v n xs) (hT : T e = true) (hS : ∀ k, S k → ∀ t cs, Blk w k t cs → T t = false) (hk : v.ownBlock = some k) : ¬ S k := by
 obtain ⟨cs, hb, _⟩ := hs.has hk
 exact oth_no hb hT hS
theorem BookAt.oth {w w' : World} {B b : Nat} {M : BkM} {S : Nat → Prop} (h : BookAt w B b M) (F : Frm S w w') (hS : ∀ k, S k → ∀ t cs, Blk w k t cs → tabAll t = false) : BookAt w' B b M := by
 refine ⟨h.blk.frm F (oth_no h.blk (by decide) hS), h.ge, h.fsl.frm F (fun k hk => oth_sl h.fsl (by decide) hS hk), h.lsl.frm F (fun k hk => oth_sl h.lsl (by decide) hS hk), ?_, ?_, h.ap⟩
 ·intro p hp
  obtain ⟨h1, h2⟩ := h.fl p hp
  refine ⟨h1.frm F (oth_no h1.blk (by decide) hS) (fun k hk => ?_) (fun k cs hk => oth_no hk (by decide) hS), h2⟩
  obtain ⟨cs, hc, _⟩ := h1.hasH hk
  exact oth_no hc (by decide) hS
 ·intro p hp
  have h1 := h.qu p hp
  exact h1.frm F (oth_no h1.blk (by decide) hS) (fun k hk => oth_sl h1.sl (by decide) hS hk)
theorem TabS.oth {w w' : World} {B t : Nat} {st : Option (Int × List UInt8)} {x : Book} {S : Nat → Prop} (h : TabS w B t st x) (F : Frm S w w') (hS : ∀ k, S k → ∀ t cs, Blk w k t cs → tabAll t = false) : TabS w' B t st x := by
 cases st with
 | none =>
  obtain ⟨b, M, h1, h2⟩ := h
  exact ⟨b, M, ⟨h1.blk.frm F (oth_no h1.blk (by decide) hS), h1.tge, h1.book.oth F hS⟩, h2⟩
 | some s =>
  obtain ⟨b, M, g, o, lc, RA, rc, h1, h2⟩ := h
  exact ⟨b, M, g, o, lc, RA, rc, ⟨h1.blk.frm F (oth_no h1.blk (by decide) hS), h1.tge, h1.sl.frm F (fun k hk => oth_sl h1.sl (by decide) hS hk), h1.rep.frm F (fun k hk => oth_sl h1.rep (by decide) hS hk), h1.book.oth F hS⟩, h2⟩
theorem cs_type {w : World} {B : Nat} {L : CL} {l : List Int} {ks rs : List BsM} {x : CSt} {op : List Int} (h : Cc w B L l ks rs x op) {k : Nat} (hk : CS L rs.length k) {t : TypeId} {cs : Array Value} (hb : Blk w k t cs) : t = 57 ∨ t = 39 := by
 rcases hk with e | e | e
 ·subst e
  left
  by_cases ht : t = 57
  ·exact ht
  ·exact absurd rfl (hb.apart h.blk ht)
 ·subst e
  obtain ⟨n, D, ho, _⟩ := h.om
  exact absurd rfl (OM.not_cells ho hb)
 ·right
  by_cases ht : 39 = t
  ·exact ht.symm
  ·exact absurd e (h.rsl.apart hb ht)
theorem Cc.keepSl {w w' : World} {B : Nat} {L : CL} {l : List Int} {ks rs : List BsM} {x : CSt} {op : List Int} (h : Cc w B L l ks rs x op) (F : Frm (CS L rs.length) w w') {B' e size n : Nat} {v : Value} {xs : List Value} (hs : Sl w B' e size v n xs) (he : e ≠ 57 ∧ e ≠ 39) : Sl w' B' e size v n xs :=
 hs.frm F (fun k hk s => by
  obtain ⟨cs, hb, _⟩ := hs.has hk
  rcases cs_type h s hb with e1 | e1
  ·exact he.1 e1
  ·exact he.2 e1)
theorem Cc.keepT {w w' : World} {B : Nat} {L : CL} {l : List Int} {ks rs : List BsM} {x : CSt} {op : List Int} (h : Cc w B L l ks rs x op) (F : Frm (CS L rs.length) w w') {Bt t : Nat} {st : Option (Int × List UInt8)} {bk : Book} (ht : TabS w Bt t st bk) : TabS w' Bt t st bk :=
 ht.oth F (fun k s t cs hb => by
  rcases cs_type h s hb with e1 | e1
  ·subst e1; decide
  ·subst e1; decide)
theorem tab_cli {t : TypeId} (h : tabT t = true) : cliT t = false := by
 unfold tabT bookT at h
 simp only [Bool.or_eq_true, beq_iff_eq] at h
 rcases h with (((((h | h) | h) | h) | h) | h) | h <;> subst h <;> decide
theorem Cc.keepF {w w' : World} {B Bt : Nat} {L : CL} {l : List Int} {ks rs : List BsM} {x : CSt} {op : List Int} (h : Cc w B L l ks rs x op) (F : FT tabT Bt w w') : Cc w' B L l ks rs x op :=
 h.far F (fun k s _ => by
  obtain ⟨_, t, cs, h1, h2⟩ := s
  exact ⟨t, cs, h1, tab_cli h2⟩)
end
section
open Go.RowKit
noncomputable def reps (cmds : List (List UInt8)) (j : Nat) : List (List UInt8) := (List.range j).map (repK cmds)
theorem reps_len (cmds : List (List UInt8)) (j : Nat) : (reps cmds j).length = j := by unfold reps; simp
theorem reps_succ (cmds : List (List UInt8)) (j : Nat) : reps cmds (j + 1) = reps cmds j ++ [repK cmds j] := by unfold reps; rw [List.range_succ, zn]; rfl
theorem reps_take (cmds : List (List UInt8)) {i j : Nat} (h : i ≤ j) : (reps cmds j).take i = reps cmds i := by
 unfold reps
 rw [← List.map_take, List.take_range, Nat.min_eq_left h]
theorem map_len {rs : List BsM} {cmds : List (List UInt8)} {j : Nat} (h : rs.map lenB = reps cmds j) : rs.length = j := by
 have := congrArg List.length h
 rw [zB, reps_len] at this
 exact this
theorem toldX_gv (x : CSt) (kn rn : Nat) (kind : Int) : (toldX x kn rn kind).1.gv = x.gv ∧ (toldX x kn rn kind).1.wt = 0 := by
 unfold toldX
 dsimp only
 split <;> split <;> first | exact ⟨rfl, rfl⟩ | (split <;> exact ⟨rfl, rfl⟩)
theorem toldB_le {d : Td} (h : TdB d) : (toldB d).length ≤ 1000000 := by
 obtain ⟨h1, h2, h3, h4⟩ := h
 unfold toldB
 have l1 := qA [d.code, d.client, d.seq] (by intro x hx; simp at hx; omega)
 have l2 := text_le d.reply (by omega)
 simp only [zG, zX] at l1
 rw [zg]
 omega
section
variable {cmds : List (List UInt8)} {j : Nat} {x : CSt} {op : List Int} {st : Option (Int × List UInt8)} {bk : Book} {sent : List (Int × List UInt8)} {ans : List An}
theorem Sys.wf (h : Sys cmds j x op st bk sent ans) (hN : cmds.length ≤ 100) (hg : x.gv ≤ 10000) (hw : x.wt ≤ 10) : CWf x := by
 have h1 := seqK_le cmds j
 have h2 := h.ci.seq
 have h3 := h.ci.jle
 exact ⟨h.ci.num, by omega, hg, hw⟩
def GoodP (w : World) (B : Nat) (L : CL) (l : List Int) (ks rs : List BsM) (cmds : List (List UInt8)) (j : Nat) (x : CSt) (w' : World) : Prop :=
 ∃ L' rs', L'.b = L.b ∧ rs'.map lenB = reps cmds (toldX x cmds.length j (rqCur cmds j x.num).kind).2 ∧ Cc w' B L' l ks rs' (toldX x cmds.length j (rqCur cmds j x.num).kind).1 [] ∧ Frm (CS L rs.length) w w'
theorem told_any (w : World) (B : Nat) (L : CL) (l : List Int) (ks rs : List BsM) (h : Cc w B L l ks rs x op) (hs : Sys cmds j x op st bk sent ans) (hN : cmds.length ≤ 100) (h4 : ∀ c ∈ cmds, c.length ≤ 4000) (hks : ks.map lenB = cmds) (hrs : rs.map lenB = reps cmds j) (hov : x.over = false) (hg : x.gv ≤ 10000) (hw : x.wt ≤ 10)
 (A : Option Addr) (cap : Nat) (d : Td) (hd : goodD cmds j x.num st bk d) (hdb : TdB d) (hA : Rd w w.heap.size A ((toldB d).map bv)) (hc : (toldB d).length ≤ cap) (hm : cap ≤ maxLen) :
 Calls Tryz.prog 26 #[.pointer (some ⟨L.b, 0, none⟩), .slice A (toldB d).length cap] w fun e w' => e = .returned (.bool true) ∧ GoodP w B L l ks rs cmds j x w' := by
 have hrl := map_len hrs
 have hkl : ks.length = cmds.length := by rw [← hks, zB]
 have hwf := hs.wf hN hg hw
 have hgo := hs.go hov
 have hk4 : ∀ m ∈ ks, m.b.length ≤ 4000 := fun m hm => h4 _ (by rw [← hks]; exact zQ.2 ⟨m, hm, rfl⟩)
 obtain ⟨g1, g2, g3⟩ := goodD_code hd
 have hrq : reqC (ks.map lenB) rs.length x = rqCur cmds j x.num := by rw [hks, hrl]; exact reqC_cur hs.ci
 have hkind := cur_kind (cmds := cmds) (j := j) hs.ci.num
 have hjl := hs.ci.jle
 have fin : ∀ {e : Ending} {w' : World} {rs' : List (List UInt8)}, ToldP w B L l ks rs.length rs' (toldX x ks.length rs.length (rqCur cmds j x.num).kind).1 e w' → rs' = reps cmds (toldX x cmds.length j (rqCur cmds j x.num).kind).2 → e = .returned (.bool true) ∧ GoodP w B L l ks rs cmds j x w' := by
  rintro e w' rs' ⟨L', rs2, rfl, ⟨k1, _⟩, k2, k3, k4⟩ k5
  rw [hkl, hrl] at k3
  exact ⟨rfl, L', rs2, k1, by rw [k2, k5], k3, k4⟩
 by_cases hn : x.num = 0
 ·have hkd : (rqCur cmds j x.num).kind = 1 := by rw [hkind, zl hn]
  refine (told_begin w B L l ks rs x op h hwf (by omega) hn (.inl hn) hk4 (by omega) A cap (toldB d) hA (toldB_le hdb) hc hm d (readT_told hdb) g1 (g2 hn) (rqCur cmds j x.num) hrq hkd g3).mono ?_
  intro e w' hp
  rw [← hkd] at hp
  refine fin hp ?_
  rw [hrs, toldX_reps, zl hkd]
 ·have h1 : x.num = 1 := by have := hs.ci.num; omega
  have hjl2 : j < cmds.length := by rcases hgo with e | e; exact absurd e hn; exact e
  have hrep := goodD_reply hn hd
  by_cases hsh : isShow (cmds.getD j []) = true
  ·have hkd : (rqCur cmds j x.num).kind = 4 := by rw [hkind, zk hn, zl hsh]
   refine (told_look w B L l ks rs x op h hwf (by omega) h1 (.inr (by omega)) hk4 (by omega) A cap (toldB d) hA (toldB_le hdb) hc hm d (readT_told hdb) g1 (rqCur cmds j x.num) hrq hkd g3).mono ?_
   intro e w' hp
   rw [← hkd] at hp
   refine fin hp ?_
   rw [hrs, hrep, toldX_reps, zk (by rw [hkd]; decide), reps_succ]
  ·have hkd : (rqCur cmds j x.num).kind = 2 := by rw [hkind, zk hn, zk hsh]
   refine (told_do w B L l ks rs x op h hwf (by omega) h1 (.inr (by omega)) hk4 (by omega) A cap (toldB d) hA (toldB_le hdb) hc hm d (readT_told hdb) g1 (rqCur cmds j x.num) hrq hkd g3).mono ?_
   intro e w' hp
   rw [← hkd] at hp
   refine fin hp ?_
   rw [hrs, hrep, toldX_reps, zk (by rw [hkd]; decide), reps_succ]
theorem CS.fresh_then {w w1 w' : World} {L : CL} {n : Nat} (F : Fresh w w1) (h : Frm (CS L n) w1 w') : Frm (CS L n) w w' := (Fresh.frm F).trans h
theorem hear_good (w : World) (B : Nat) (L : CL) (l : List Int) (ks rs : List BsM) (h : Cc w B L l ks rs x op) (hs : Sys cmds j x op st bk sent ans) (hN : cmds.length ≤ 100) (h4 : ∀ c ∈ cmds, c.length ≤ 4000) (hks : ks.map lenB = cmds) (hrs : rs.map lenB = reps cmds j) (hov : x.over = false) (hg : x.gv ≤ 10000) (hw : x.wt ≤ 10)
 (token : Int) (ht : 0 ≤ token ∧ token ≤ 1000000000) (hin : token ∈ op) (A : Option Addr) (cap : Nat) (d : Td) (hd : goodD cmds j x.num st bk d) (hdb : TdB d) (he : bsE w ⟨A, cap, toldB d⟩) :
 Calls Tryz.prog 10 #[.pointer (some ⟨L.b, 0, none⟩), .agg (dcel token 0 0 A (toldB d).length cap)] w fun e w' => e = .returned (.bool true) ∧ GoodP w B L l ks rs cmds j x w' := by
 refine hear_told w B L l ks rs x op h token ht hov (List.contains_iff_mem.2 hin) A (toldB d).length cap (GoodP w B L l ks rs cmds j x) (fun V F => ?_)
 have heV := he.fresh F
 obtain ⟨A', c', ee, q1, q2, _⟩ := Sl.shape heV
 injection ee with e1 _ e3
 dsimp only at e1 e3 q1
 subst e1 e3
 refine (told_any V B L l ks rs (h.fresh F) hs hN h4 hks hrs hov hg hw _ _ d hd hdb (Sl.rd heV) q1 q2).mono ?_
 rintro e w' ⟨k1, L', rs', k2, k3, k4, k5⟩
 exact ⟨k1, L', rs', k2, k3, k4, CS.fresh_then F k5⟩
def HeardP (w : World) (B : Nat) (L : CL) (l : List Int) (ks rs : List BsM) (cmds : List (List UInt8)) (st : Option (Int × List UInt8)) (bk : Book) (sent : List (Int × List UInt8)) (ans : List An) (gv : Nat) (w' : World) : Prop :=
 ∃ L' rs' j' x' op', L'.b = L.b ∧ rs'.map lenB = reps cmds j' ∧ Cc w' B L' l ks rs' x' op' ∧ Sys cmds j' x' op' st bk sent ans ∧ x'.gv = gv ∧ x'.wt ≤ 10 ∧ Frm (CS L rs.length) w w'
theorem hear_any (w : World) (B : Nat) (L : CL) (l : List Int) (ks rs : List BsM) (h : Cc w B L l ks rs x op) (hs : Sys cmds j x op st bk sent ans) (hN : cmds.length ≤ 100) (h4 : ∀ c ∈ cmds, c.length ≤ 4000) (hks : ks.map lenB = cmds) (hrs : rs.map lenB = reps cmds j) (hg : x.gv ≤ 10000) (hw : x.wt ≤ 10)
 (hl : l.length ≤ 15) (hl0 : ∀ z ∈ l, z ≠ 0) (a : An) (ha : a ∈ ans) (A : Option Addr) (cap : Nat) (he : bsE w ⟨A, cap, a.b⟩) :
 Calls Tryz.prog 10 #[.pointer (some ⟨L.b, 0, none⟩), .agg (dcel a.token 0 a.code A a.b.length cap)] w fun e w' => (∃ b, e = .returned (.bool b)) ∧ HeardP w B L l ks rs cmds st bk sent ans x.gv w' := by
 obtain ⟨⟨t1, t2⟩, hk⟩ := hs.an a ha
 have ht : 0 ≤ a.token ∧ a.token ≤ 1000000000 := by omega
 by_cases hno : x.over = true ∨ op.contains a.token = false
 ·refine (hear_no w B L l ks rs x op h a.token ht 0 a.code A a.b.length cap hno).mono ?_
  rintro e w' ⟨rfl, F⟩
  exact ⟨⟨_, rfl⟩, L, rs, j, x, op, rfl, hrs, h.fresh F, hs, rfl, hw, Fresh.frm F⟩
 ·have hov : x.over = false := by cases hx : x.over with | false => rfl | true => exact absurd (.inl hx) hno
  have hin : op.contains a.token = true := by cases hx : op.contains a.token with | true => rfl | false => exact absurd (.inr hx) hno
  rcases hk with ⟨hc, hb⟩ | ⟨hc, d, hb, hdb, hgd⟩
  ·rw [hc]
   have hpa := h.pos
   refine (hear_refused w B L l ks rs x op h a.token ht hov hin A a.b.length cap hl hl0 (by omega)).mono ?_
   rintro e w' ⟨rfl, hcc, hf⟩
   exact ⟨⟨_, rfl⟩, L, rs, j, _, op, rfl, hrs, hcc, hs.move rfl rfl rfl rfl rfl, rfl, zF _, hf⟩
  ·have hm : a.token ∈ op := List.contains_iff_mem.1 hin
   rw [hc, hb]
   rw [hb] at he
   refine (hear_good w B L l ks rs h hs hN h4 hks hrs hov hg hw a.token ht hm A cap d (hgd hm) hdb he).mono ?_
   rintro e w' ⟨rfl, L', rs', k2, k3, k4, k5⟩
   obtain ⟨e1, e2⟩ := toldX_gv x cmds.length j (rqCur cmds j x.num).kind
   exact ⟨⟨_, rfl⟩, L', rs', _, _, [], k2, k3, k4, hs.told hN hov (hgd hm), e1, by rw [e2]; omega, k5⟩
end
end
end Go.Proofs.YtnmokpbomeamfaaGreat

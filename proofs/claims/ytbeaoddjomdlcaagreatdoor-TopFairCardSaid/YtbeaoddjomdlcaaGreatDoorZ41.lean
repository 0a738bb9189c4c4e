/- Proved here, for the statement TopFairCardSaid: laws that its walk leans on. It holds with no condition. (Put together and shortened by a program out of many texts: Dn1, To57, To59.) -/
import Derived.Test.YtbeaoddjomdlcaaGreatDoorZ40
set_option linter.unusedVariables false
set_option linter.unusedSimpArgs false
set_option maxRecDepth 100000
set_option maxHeartbeats 64000000
namespace Go.Proofs.YtbeaoddjomdlcaaGreatDoor
section
open Go.RowKit ReadM
abbrev RS : Type := List UInt8 × Bool
def rd1 {α : Type} (z : α) (f : List UInt8 → Option (α × List UInt8)) (s : RS) : α × RS :=
  if s.2 = true then (z, s) else match f s.1 with
    | some x => (x.1, (x.2, false))
    | none => (z, (s.1, true))
def rdn (most : Nat) (s : RS) : Nat × RS := rd1 0 (numRes most) s
def rdt (most : Int) (s : RS) : List UInt8 × RS := rd1 [] (textRes most) s
def wholeS (s : RS) : Bool := !s.2 && s.1.isEmpty
theorem rd1_bad {α : Type} (z : α) (f : List UInt8 → Option (α × List UInt8)) (s : RS) : (ifGood s.2 (f s.1)).isNone = (rd1 z f s).2.2 := by
  obtain ⟨bs, bad⟩ := s
  cases bad with
  | true => rfl
  | false =>
    unfold rd1 ifGood
    dsimp only
    cases f bs <;> rfl
theorem numRes_some {most : Nat} {bs : List UInt8} {x : Nat × List UInt8} (h : numRes most bs = some x) : x.1 ≤ most ∧ x.2.length ≤ bs.length := by
  unfold numRes at h
  split at h
  · rename_i hd
    split at h
    · injection h with h
      subst h
      rename_i hm
      exact ⟨hm, Nat.le_of_lt (dec_len hd)⟩
    · cases h
  · cases h
theorem textRes_some {most : Int} {bs : List UInt8} {x : List UInt8 × List UInt8} (h : textRes most bs = some x) : (x.1.length : Int) ≤ most ∧ x.2.length ≤ bs.length ∧ x.1.length ≤ bs.length := by
  unfold textRes at h
  split at h
  · rename_i hd
    split at h
    · injection h with h
      subst h
      rename_i hm
      have := dec_len hd
      refine ⟨?_, ?_, ?_⟩
      · rw [List.length_take]; omega
      · rw [List.length_drop]; omega
      · rw [List.length_take]; omega
    · cases h
  · cases h
theorem rdn_le (most : Nat) (s : RS) : (rdn most s).1 ≤ most := by
  unfold rdn rd1
  split
  · exact Nat.zero_le _
  · split
    · rename_i x hx
      exact (numRes_some hx).1
    · exact Nat.zero_le _
theorem rdt_le {most : Int} (h0 : 0 ≤ most) (s : RS) : ((rdt most s).1.length : Int) ≤ most := by
  unfold rdt rd1
  split
  · simpa using h0
  · split
    · rename_i x hx
      exact (textRes_some hx).1
    · simpa using h0
def DocAt (w : World) (B g : Nat) (s : RS) : Prop := ∃ bs at_, RefAt w B g bs at_ s.2 ∧ at_ ≤ bs.length ∧ bs.length ≤ 140737488355328 ∧ (s.2 = false → s.1 = bs.drop at_)
theorem DocAt.frm {w w' : World} {B g : Nat} {s : RS} {S : Nat → Prop} (h : DocAt w B g s) (hf : Frm S w w') (hg : ¬ S g) (hS : ∀ k, k < B → ¬ S k) : DocAt w' B g s := by
  obtain ⟨bs, a, h1, h2⟩ := h
  exact ⟨bs, a, h1.frm hf hg hS, h2⟩
theorem DocAt.fresh {w w' : World} {B g : Nat} {s : RS} (h : DocAt w B g s) (F : Fresh w w') : DocAt w' B g s := h.frm F (fun f => f) (fun _ _ f => f)
theorem DocAt.lt {w : World} {B g : Nat} {s : RS} (h : DocAt w B g s) : g < w.heap.size := by
  obtain ⟨_, _, h, _⟩ := h; exact h.lt
theorem DocAt.ge {w : World} {B g : Nat} {s : RS} (h : DocAt w B g s) : B ≤ g := by
  obtain ⟨_, _, ⟨_, _, _, _, _, _, h⟩, _⟩ := h; exact h
theorem DocAt.blk {w : World} {B g : Nat} {s : RS} (h : DocAt w B g s) : ∃ cs, Blk w g 104 cs := by
  obtain ⟨_, _, ⟨_, _, h, _⟩, _⟩ := h; exact ⟨_, h⟩
theorem DocAt.step {α : Type} {z : α} {f : List UInt8 → Option (α × List UInt8)} {w w' : World} {B g : Nat} {s : RS} {bs : List UInt8} {a : Nat} (hl : bs.length ≤ 140737488355328) (he : s.2 = false → s.1 = bs.drop a)
    (h : StepTo w B g bs ((ifGood s.2 (f (bs.drop a))).map (·.2)) w') : DocAt w' B g (rd1 z f s).2 ∧ Frm (fun k => k = g) w w' := by
  obtain ⟨at', h1, h2, h3, h4⟩ := h
  obtain ⟨b, bad⟩ := s
  refine ⟨⟨bs, at', ?_, h1, hl, ?_⟩, h4⟩
  · cases bad with
    | true => exact h2
    | false =>
      have e := he rfl
      dsimp only at e
      subst e
      have := rd1_bad z f (bs.drop a, false)
      dsimp only at this
      rw [← this]
      rw [Option.isNone_map] at h2
      exact h2
  · cases bad with
    | true =>
      intro hh
      unfold rd1 at hh
      cases hh
    | false =>
      have e := he rfl
      dsimp only at e
      subst e
      intro hh
      unfold rd1 at hh ⊢
      dsimp only [ifGood] at hh ⊢ h3
      rw [if_neg (by simp)] at hh ⊢
      cases hr : f (bs.drop a) with
      | none => rw [hr] at hh; cases hh
      | some x =>
        rw [hr] at h3
        exact h3 x.2 rfl
theorem DocAt.val {α : Type} {z : α} {f : List UInt8 → Option (α × List UInt8)} {s : RS} {bs : List UInt8} {a : Nat} (he : s.2 = false → s.1 = bs.drop a) :
    (s.2 = true ∧ (rd1 z f s).1 = z) ∨ (s.2 = false ∧ f (bs.drop a) = none ∧ (rd1 z f s).1 = z) ∨ (∃ x, s.2 = false ∧ f (bs.drop a) = some x ∧ (rd1 z f s).1 = x.1) := by
  obtain ⟨b, bad⟩ := s
  cases bad with
  | true => exact .inl ⟨rfl, rfl⟩
  | false =>
    have e := he rfl
    dsimp only at e
    subst e
    unfold rd1
    dsimp only
    rw [if_neg (by simp)]
    cases hr : f (bs.drop a) with
    | none => exact .inr (.inl ⟨rfl, rfl, rfl⟩)
    | some x => exact .inr (.inr ⟨x, rfl, rfl, rfl⟩)
def DNum (w : World) (B g : Nat) (x : Value) (t : RS) (e : Ending) (w' : World) : Prop := e = .returned x ∧ DocAt w' B g t ∧ Frm (fun k => k = g) w w'
theorem dNum (w : World) (B g : Nat) (s : RS) (most : Nat) (h : DocAt w B g s) :
    Calls Tryz.prog 39 #[.pointer (some ⟨g, 0, none⟩), .int .u64 (most : Int)] w fun e w' => DNum w B g (.int .u64 ((rdn most s).1 : Int)) (rdn most s).2 e w' := by
  obtain ⟨bs, a, h1, h2, h3, h4⟩ := h
  refine (rNumber_any w B g bs a s.2 most h2 h3 h1).mono ?_
  rintro e w' ⟨k1, k2⟩
  obtain ⟨k3, k4⟩ := DocAt.step (z := 0) (f := numRes most) h3 h4 k2
  refine ⟨?_, k3, k4⟩
  rcases DocAt.val (z := 0) (f := numRes most) h4 with ⟨v1, v2⟩ | ⟨v1, v2, v3⟩ | ⟨x, v1, v2, v3⟩
  · rw [v1] at k1; exact k1.trans (congrArg (fun n : Nat => Ending.returned (.int .u64 (n : Int))) v2.symm)
  · rw [v1, v2] at k1; exact k1.trans (congrArg (fun n : Nat => Ending.returned (.int .u64 (n : Int))) v3.symm)
  · rw [v1, v2] at k1; exact k1.trans (congrArg (fun n : Nat => Ending.returned (.int .u64 (n : Int))) v3.symm)
def DText (w : World) (B g : Nat) (x : List UInt8) (t : RS) (e : Ending) (w' : World) : Prop :=
  ∃ v, e = .returned v ∧ Sl w' w.heap.size 5 1 v x.length (x.map bv) ∧ DocAt w' B g t ∧ Frm (fun k => k = g) w w'
theorem dText (w : World) (B g : Nat) (s : RS) (most : Int) (hmx : most ≤ 9223372036854775807) (h : DocAt w B g s) :
    Calls Tryz.prog 41 #[.pointer (some ⟨g, 0, none⟩), .int .i64 most] w fun e w' => DText w B g (rdt most s).1 (rdt most s).2 e w' := by
  obtain ⟨bs, a, h1, h2, h3, h4⟩ := h
  refine (rText_any w B g bs a s.2 most hmx h2 h3 h1).mono ?_
  rintro e w' ⟨v, t, k1, k0, ks, k2⟩
  obtain ⟨k3, k4⟩ := DocAt.step (z := []) (f := textRes most) h3 h4 k2
  have k0' : t = (rd1 [] (textRes most) s).1 := by
    rcases DocAt.val (z := []) (f := textRes most) h4 with ⟨v1, v2⟩ | ⟨v1, v2, v3⟩ | ⟨x, v1, v2, v3⟩
    · rw [v1] at k0; exact k0.trans v2.symm
    · rw [v1, v2] at k0; exact k0.trans v3.symm
    · rw [v1, v2] at k0; exact k0.trans v3.symm
  subst k0'
  exact ⟨v, k1, ks, k3, k4⟩
theorem dWhole (w : World) (B g : Nat) (s : RS) (h : DocAt w B g s) :
    Calls Tryz.prog 43 #[.pointer (some ⟨g, 0, none⟩)] w fun e w' => e = .returned (.bool (wholeS s)) ∧ ∃ n, w' = w.drewN n := by
  obtain ⟨bs, a, h1, h2, h3, h4⟩ := h
  have e : refWholeB bs a s.2 = wholeS s := by
    obtain ⟨b, bad⟩ := s
    cases bad with
    | true => rfl
    | false =>
      have e := h4 rfl
      dsimp only at e
      subst e
      unfold refWholeB wholeS
      dsimp only
      rw [Bool.not_false, Bool.true_and, Bool.true_and]
      rcases Nat.lt_or_ge a bs.length with h | h
      · rw [decide_eq_false (by omega)]
        cases hd : bs.drop a with
        | nil =>
          have := List.length_drop (i := a) (l := bs)
          rw [hd] at this
          simp at this
          omega
        | cons x r => rfl
      · rw [decide_eq_true (by omega), List.drop_eq_nil_of_le h]
        rfl
  rw [← e]
  exact rWhole_any w B g bs a s.2 h1
end
section
open Go.RowKit
theorem DocAt.am {w : World} {B g : Nat} {s : RS} (h : DocAt w B g s) : w.cell? ⟨g, 2, none⟩ = some (.bool s.2) := by
  obtain ⟨_, _, ⟨_, _, hb, _⟩, _⟩ := h
  exact hb.cell 2
def List15Post (w : World) (B g most each : Nat) (e : Ending) (w' : World) : Prop :=
  ∃ (v : Value) (l : List Int) (s' : RS), e = .returned v ∧ l.length ≤ most ∧ (∀ z ∈ l, 0 ≤ z ∧ z ≤ (each : Int)) ∧ Sl w' w.heap.size 3 1 v l.length (ivs l) ∧ DocAt w' B g s' ∧ Frm (fun k => k = g) w w'
theorem list15_any (w : World) (B g : Nat) (s : RS) (most each : Nat) (hm : most ≤ 600) (he : each ≤ 10000) (h : DocAt w B g s) :
    Calls Tryz.prog 79 #[.pointer (some ⟨g, 0, none⟩), .int .u64 (most : Int), .int .u64 (each : Int)] w fun e w' => List15Post w B g most each e w' := by
  obtain ⟨i0, hi, hz0, hz1, hz2⟩ := info_parts info_int
  have hgl : g < w.heap.size := h.lt
  have hn15 := rdn_le most s
  have HN := zh (dNum w B g s most h)
  obtain ⟨n, hn⟩ : ∃ n, n = (rdn most s).1 := ⟨_, rfl⟩
  obtain ⟨s1, hs1⟩ : ∃ s1, s1 = (rdn most s).2 := ⟨_, rfl⟩
  rw [← hn] at hn15 HN
  rw [← hs1] at HN
  clear h hn hs1
  go_in
  go_wp2_with fail
  refine HN.out.mono ?_
  rintro e w1 ⟨rfl, hr1, f1⟩
  have HR1 := zh hr1
  have HF1 := zh f1
  clear hr1 f1
  go_wp2_with fail
  go_loopw [8, 9] (fun v8 v9 wr => ∃ (i : Nat) (l : List Int) (z : RS), i ≤ n ∧ v9 = .int .u64 (i : Int) ∧ l.length = i ∧ (∀ z ∈ l, 0 ≤ z ∧ z ≤ (each : Int)) ∧ Sl wr w.heap.size 3 1 v8 l.length (ivs l) ∧ DocAt wr B g z ∧ Frm (fun k => k = g) w wr) (fun _ v9 _ => n - (RowKit.intOf v9).toNat)
  case atStart => exact ⟨0, [], s1, by omega, rfl, rfl, (fun z hz => by cases hz), Sl.nil _ _ _ _, HR1.out, HF1.out⟩
  case round =>
    clear HR1 HF1
    obtain ⟨i, l, z, hin, rfl, hli, hbd, hs, hr, hf⟩ := hrel
    have hi0 : (0 : Int) ≤ (i : Int) := by omega
    have HLI := zh hli
    have hll : l.length ≤ 600 := by omega
    clear hli
    have HS := zh hs
    have HRR := zh hr
    have HF := zh hf
    have HBD := zh hbd
    have c2 : wr.cell? ⟨g, 2, none⟩ = some (.bool z.2) := hr.am
    obtain ⟨AL, cl, rfl, _⟩ := hs.shape
    by_cases hlt : i < n
    · have hlti : (i : Int) < (n : Int) := by omega
      have dlt : decide ((i : Int) < (n : Int)) = true := decide_eq_true hlti
      have hx15 := rdn_le each z
      have HNX := zh (dNum wr B g z each hr)
      obtain ⟨x, hx⟩ : ∃ x, x = (rdn each z).1 := ⟨_, rfl⟩
      obtain ⟨z2, hz2'⟩ : ∃ z2, z2 = (rdn each z).2 := ⟨_, rfl⟩
      rw [← hx] at hx15 HNX
      rw [← hz2'] at HNX
      have hwx : IntKind.i64.wrap (x : Int) = (x : Int) := IntWalk.i64_in _ (by omega)
      clear hs hr hf hx hz2' hbd
      obtain ⟨am, ham⟩ : ∃ am, z.2 = am := ⟨_, rfl⟩
      rw [ham] at c2
      clear ham
      cases am with
      | true =>
        go_wp2_with fail
        go_ret
        exact ⟨_, l, z, rfl, by have := HLI.out; omega, HBD.out, HS.out, HRR.out, HF.out⟩
      | false =>
        go_wp2_with fail
        refine HNX.out.mono ?_
        rintro e w3 ⟨rfl, hr3, f3⟩
        have HR3 := zh hr3
        have HSA : Hid (Sl (w3.alloc (.cells #[.int .i64 (x : Int)] 3)) w.heap.size 3 1 (.slice AL l.length cl) l.length (ivs l)) := zh ((HS.out.frm f3 (fun k hk e => by have := (HS.out.lt k hk).1; omega)).alloc _)
        have HFA : Hid (Frm (fun k => k = g) w (w3.alloc (.cells #[.int .i64 (x : Int)] 3))) := zh ((HF.out.trans f3).alloc _)
        have R := zh (rd_one w3 (.int .i64 (x : Int)) 3)
        clear hr3 f3
        go_wp2_with (at_builtin; refine wpList_append_sl _ rfl (.tmp 25) (.tmp 30) _ rfl w.heap.size 3 i0 _ 1 8 Tryz.underlying26 hi hz0 hz1 hz2 rfl (by omega) _ l.length _ rfl HSA.out _ _ 1 _ _ rfl (by rfl) R.out (fun u hu => by simp at hu; subst hu; rfl) (by unfold maxLen; omega) (by omega) HFA.out.size ?_; intro v5 w5 hs5 hf5 ha5)
        have HS5 : Hid (Sl w5 w.heap.size 3 1 v5 (l ++ [(x : Int)]).length (ivs (l ++ [(x : Int)]))) := zh (by
          rw [List.length_append, List.length_singleton]
          unfold ivs
          rw [List.map_append]
          exact hs5)
        have HF5 : Hid (Frm (fun k => k = g) w w5) := zh (HFA.out.trans' hf5 (fun k hk e => by have := (HSA.out.lt k e).1; omega))
        have HR5 : Hid (DocAt w5 B g z2) := zh ((HR3.out.fresh ((Frm.refl _ w3).alloc _)).frm hf5 (fun e => by have := (HSA.out.lt _ e).1; omega) (fun k hk e => by have := (HSA.out.lt k e).1; have := HR3.out.ge; omega))
        have HBD5 : Hid (∀ z ∈ l ++ [(x : Int)], 0 ≤ z ∧ z ≤ (each : Int)) := zh (fun z hz => by
          rcases List.mem_append.1 hz with hz | hz
          · exact HBD.out z hz
          · rw [List.mem_singleton] at hz; rw [hz]; exact ⟨by omega, by omega⟩)
        clear hs5 hf5 ha5
        go_wp2_with fail
        go_roundw
        case rel => exact ⟨i + 1, l ++ [(x : Int)], z2, by omega, by go_num, by rw [List.length_append, HLI.out]; rfl, HBD5.out, HS5.out, HR5.out, HF5.out⟩
        case measure => simp [RowKit.intOf]; omega
    · have hlti : ¬ (i : Int) < (n : Int) := by omega
      have dlt : decide ((i : Int) < (n : Int)) = false := decide_eq_false hlti
      clear hs hr hf hbd
      go_wp2_with fail
      go_ret
      exact ⟨_, l, z, rfl, by have := HLI.out; omega, HBD.out, HS.out, HRR.out, HF.out⟩
end
section
open Go.RowKit
structure DocFl (m : FlM) : Prop where
  num : 0 ≤ m.num ∧ m.num ≤ 9999
  rows : 0 ≤ m.rows ∧ m.rows ≤ 60
  gs : small m.gs
  lims : m.lims.length ≤ 8
  hs : m.hs.length ≤ 600
  h : ∀ x ∈ m.hs, (0 ≤ x.ow ∧ x.ow ≤ 28629151) ∧ (0 ≤ x.cl ∧ x.cl ≤ 8) ∧ (0 ≤ x.mn ∧ x.mn ≤ 600) ∧ x.st.length ≤ 600
def BoolPost (w : World) (e : Ending) (w' : World) : Prop := ∃ β : Bool, e = .returned (.bool β) ∧ Fresh w w'
section
variable {w w1 w' : World} {B f g : Nat} {m : FlM}
theorem FlAt.other (h : FlAt w B f m) {S : Nat → Prop} (F : Frm S w w') (hf : ¬ S f) (ht : ∀ k e cs, Blk w k e cs → e = 3 ∨ e = 139 → B ≤ k → ¬ S k) : FlAt w' B f m := by
  have o : ∀ {e size n : Nat} {v : Value} {xs : List Value}, Sl w B e size v n xs → e = 3 ∨ e = 139 → Sl w' B e size v n xs := fun hs he => hs.frm F (fun k hk => by
    obtain ⟨hB, cs, hc⟩ := own_type hs hk
    exact ht k _ cs hc he hB)
  exact ⟨h.blk.frm F hf, o h.gsl (.inl rfl), o h.lsl (.inl rfl), o h.hsl (.inr rfl), fun x hx => o (h.ssl x hx) (.inl rfl)⟩
theorem FlAt.rdr (h : FlAt w B f m) {cs : Array Value} (hg : Blk w g 104 cs) (F : Frm (fun k => k = g) w w') : FlAt w' B f m :=
  h.other F (h.blk.apart hg (by decide)) (fun k e cs' hc he _ s => by subst s; rcases he with rfl | rfl <;> exact hc.apart hg (by decide) rfl)
theorem FlAt.setG (h : FlAt w B f m) {A : Option Addr} {c : Nat} {l : List Int} (hl : Sl w B 3 1 (.slice A l.length c) l.length (ivs l)) : FlAt (w.setCell ⟨f, 2, none⟩ (.slice A l.length c)) B f { m with GA := A, gc := c, gs := l } := by
  have FS : Frm (fun k => k = f) w (w.setCell ⟨f, 2, none⟩ (.slice A l.length c)) := (Frm.refl (fun k => k = f) w).setCell (p := ⟨f, 2, none⟩) (fun _ => rfl) _
  exact ⟨h.blk.set 2 _, hl.frm FS (fun k hk e => (hl.apart h.blk (by decide)) (by rw [hk, e])), h.lsl.frm FS (fun k hk e => (h.lsl.apart h.blk (by decide)) (by rw [hk, e])), h.hsl.frm FS (fun k hk e => (h.hsl.apart h.blk (by decide)) (by rw [hk, e])), fun x hx => (h.ssl x hx).frm FS (fun k hk e => ((h.ssl x hx).apart h.blk (by decide)) (by rw [hk, e]))⟩
theorem FlAt.setLm (h : FlAt w B f m) {A : Option Addr} {c : Nat} {l : List Int} (hl : Sl w B 3 1 (.slice A l.length c) l.length (ivs l)) : FlAt (w.setCell ⟨f, 3, none⟩ (.slice A l.length c)) B f { m with LA := A, lc := c, lims := l } := by
  have FS : Frm (fun k => k = f) w (w.setCell ⟨f, 3, none⟩ (.slice A l.length c)) := (Frm.refl (fun k => k = f) w).setCell (p := ⟨f, 3, none⟩) (fun _ => rfl) _
  exact ⟨h.blk.set 3 _, h.gsl.frm FS (fun k hk e => (h.gsl.apart h.blk (by decide)) (by rw [hk, e])), hl.frm FS (fun k hk e => (hl.apart h.blk (by decide)) (by rw [hk, e])), h.hsl.frm FS (fun k hk e => (h.hsl.apart h.blk (by decide)) (by rw [hk, e])), fun x hx => (h.ssl x hx).frm FS (fun k hk e => ((h.ssl x hx).apart h.blk (by decide)) (by rw [hk, e]))⟩
theorem FlAt.appH (h : FlAt w B f m) (x : Hd) (hx : Sl w B 3 1 (.slice x.A x.st.length x.c) x.st.length (ivs x.st)) {A3 : Option Addr} {c3 : Nat}
    (hs : Sl w1 B 139 4 (.slice A3 (m.hs.length + 1) c3) (m.hs.length + 1) (m.hs.flatMap hcel ++ hcel x)) (F : Frm (fun k => (Value.slice m.HA m.hs.length m.hc).ownBlock = some k) w w1) :
    FlAt (w1.setCell ⟨f, 4, none⟩ (.slice A3 (m.hs.length + 1) c3)) B f { m with HA := A3, hc := c3, hs := m.hs ++ [x] } := by
  have hb := h.blk.frm F (h.hsl.apart h.blk (by decide))
  have ap : ∀ {v : Value} {n : Nat} {xs : List Value}, Sl w B 3 1 v n xs → Sl w1 B 3 1 v n xs := fun hs' => hs'.frm F (fun k hk hk2 => by
    obtain ⟨_, cs, hc⟩ := own_type hs' hk
    obtain ⟨_, cs2, hc2⟩ := own_type h.hsl hk2
    exact hc.apart hc2 (by decide) rfl)
  have FS : Frm (fun k => k = f) w1 (w1.setCell ⟨f, 4, none⟩ (.slice A3 (m.hs.length + 1) c3)) := (Frm.refl (fun k => k = f) w1).setCell (p := ⟨f, 4, none⟩) (fun _ => rfl) _
  have hl : (m.hs ++ [x]).length = m.hs.length + 1 := by simp
  refine ⟨?_, (ap h.gsl).frm FS (fun k hk e => ((ap h.gsl).apart hb (by decide)) (by rw [hk, e])), (ap h.lsl).frm FS (fun k hk e => ((ap h.lsl).apart hb (by decide)) (by rw [hk, e])), ?_, fun z hz => ?_⟩
  · have := hb.set 4 (.slice A3 (m.hs.length + 1) c3)
    unfold fcel
    dsimp only
    rw [hl]
    exact this
  · dsimp only
    rw [hl, List.flatMap_append, List.flatMap_singleton]
    exact hs.frm FS (fun k hk e => (hs.apart hb (by decide)) (by rw [hk, e]))
  · dsimp only at hz
    have hz' : Sl w B 3 1 (.slice z.A z.st.length z.c) z.st.length (ivs z.st) := by
      rcases List.mem_append.1 hz with hz | hz
      · exact h.ssl z hz
      · rw [List.mem_singleton] at hz; rw [hz]; exact hx
    exact (ap hz').frm FS (fun k hk e => ((ap hz').apart hb (by decide)) (by rw [hk, e]))
end
theorem step_app2 {P : Program} {w : World} {ops : Array Oper} {o : Oper} {a : Act} {K : Act → World → Prop} {Q : Exit → Act → World → Prop} {E : Prop} (hgd : o.guard = none) (s x : Operand) (t : TypeId)
    (ho : o.op = .call { callee := .builtin .append, args := #[s, x], argTypes := #[t, t] })
    (B : Nat) (e : TypeId) (i : TypeInfo) (z : Value) (size bytes : Nat) (ht : P.underlying t = some (.slice e)) (hi : P.info? e = some i) (hz : i.zero = some z)
    (hsize : i.size = size) (hby : i.bytes = bytes) (hzs : z.cells.size = size) (hsz : 0 < size)
    (v : Value) (n : Nat) (xs : List Value) (hs : a.eval s = v) (hown : Sl w B e size v n xs)
    (B' : Nat) (A : Option Addr) (m c : Nat) (news : List Value) (hx : a.eval x = .slice A m c) (hl : news.length = m * size) (hr : Rd w B' A news) (h1 : ∀ u ∈ news, u.oneCell' = true)
    (h63 : n + m ≤ 100000000) (hby2 : bytes ≤ 1000) (F : B ≤ w.heap.size)
    (h : ∀ v' w', Sl w' B e size v' (n + m) (xs ++ news) → Frm (fun k => v.ownBlock = some k) w w' → K (a.put o.dst v') w') :
    if Region.wanted o (yielded ops a.tmps) = true then Oper.wp P o a w K Q else E := by
  have hw : Region.wanted o (yielded ops a.tmps) = true := by simp [Region.wanted, hgd]
  rw [if_pos hw]
  obtain ⟨v', w', hrun, h2, h3, _⟩ := run_append_sl (P := P) w B t o.type e i z size bytes ht hi hz hsize hby hzs hsz v n xs hown B' A m c news hl hr h1 (by unfold maxLen; omega) (by have := Nat.mul_le_mul h63 hby2; omega) F
  unfold Oper.wp execOp
  simp only [ho, resolve, invoke, builtin, Sem.run_bind, Sem.run_pure, Result.andThen_ok, List.map_toArray, List.map_cons, List.map_nil, hs, hx, hrun]
  exact h v' w' h2 h3
end
end Go.Proofs.YtbeaoddjomdlcaaGreatDoor

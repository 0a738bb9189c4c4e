/- Proved here, for the statement TopFairCardSaid: laws that its walk leans on. It holds with no condition. (Put together and shortened by a program out of many texts: To18.) -/
import Derived.Test.YtbeaoddjomdlcaaGreatDoorZ15
set_option linter.unusedVariables false
set_option linter.unusedSimpArgs false
set_option maxRecDepth 100000
set_option maxHeartbeats 64000000
namespace Go.Proofs.YtbeaoddjomdlcaaGreatDoor
section
open Go.RowKit
theorem next_at {P : Program} {w : World} {k : Nat} {s : ByteArray} {pos : Nat} (hk : w.heap[k]? = some (.stringIter s pos)) (h : pos < s.size) (ty : TypeId) :
    ∃ w2, (Instr.next (.pointer (some ⟨k, 0, none⟩)) true ty).run P w = .ok (.tuple #[.bool true, .int .i64 pos, .int .i32 (Utf8.decode s pos).1]) w2 ∧ w2.heap[k]? = some (.stringIter s (pos + (Utf8.decode s pos).2)) ∧ Frm (fun j => j = k) w w2 := by
  have hlt : k < w.heap.size := (Array.getElem?_eq_some_iff.1 hk).1
  refine ⟨{ w with heap := w.heap.setIfInBounds k (.stringIter s (pos + (Utf8.decode s pos).2)) }, ?_, ?_, ⟨rfl, rfl, rfl, by simp, fun i hi hn => ?_⟩⟩
  · simp [Instr.next, getObj, setObj, Sem.run, hk, h, Result.andThen, goInt]
  · simp [hlt]
  · show (w.heap.setIfInBounds k _)[i]? = _
    rw [Array.getElem?_setIfInBounds, if_neg (fun e => hn e.symm)]
theorem next_over {P : Program} {w : World} {k : Nat} {s : ByteArray} {pos : Nat} (hk : w.heap[k]? = some (.stringIter s pos)) (h : ¬ pos < s.size) (ty : TypeId) :
    (Instr.next (.pointer (some ⟨k, 0, none⟩)) true ty).run P w = .ok (.tuple #[.bool false]) w := by
  simp [Instr.next, getObj, Sem.run, hk, h, Result.andThen]
theorem iter_here (w : World) (s : ByteArray) : (w.iter s 0).heap[w.heap.size]? = some (.stringIter s 0) := World.iter_heap w s 0
def lbnd : Nat → Int
  | 0 => 1
  | 1 => 31
  | 2 => 961
  | 3 => 29791
  | 4 => 923521
  | _ + 5 => 28629151
theorem lbnd_mono : ∀ (a b : Nat), a ≤ b → lbnd a ≤ lbnd b := by
  intro a b h
  match a, b, h with
  | 0, 0, _ => decide
  | 0, 1, _ => decide
  | 0, 2, _ => decide
  | 0, 3, _ => decide
  | 0, 4, _ => decide
  | 0, b + 5, _ => show (1 : Int) ≤ 28629151; decide
  | 1, 1, _ => decide
  | 1, 2, _ => decide
  | 1, 3, _ => decide
  | 1, 4, _ => decide
  | 1, b + 5, _ => show (31 : Int) ≤ 28629151; decide
  | 2, 2, _ => decide
  | 2, 3, _ => decide
  | 2, 4, _ => decide
  | 2, b + 5, _ => show (961 : Int) ≤ 28629151; decide
  | 3, 3, _ => decide
  | 3, 4, _ => decide
  | 3, b + 5, _ => show (29791 : Int) ≤ 28629151; decide
  | 4, 4, _ => decide
  | 4, b + 5, _ => show (923521 : Int) ≤ 28629151; decide
  | a + 5, b + 5, _ => exact Int.le_refl _
theorem lbnd_step {n d : Int} {pos : Nat} (h0 : 0 ≤ n) (hn : n < lbnd pos) (hp : pos < 5) (hd : 0 ≤ d ∧ d ≤ 30) : 0 ≤ n * 31 + d ∧ n * 31 + d < lbnd (pos + 1) := by
  match pos, hp with
  | 0, _ => have : n < 1 := hn; show _ ∧ _ < (31 : Int); omega
  | 1, _ => have : n < 31 := hn; show _ ∧ _ < (961 : Int); omega
  | 2, _ => have : n < 961 := hn; show _ ∧ _ < (29791 : Int); omega
  | 3, _ => have : n < 29791 := hn; show _ ∧ _ < (923521 : Int); omega
  | 4, _ => have : n < 923521 := hn; show _ ∧ _ < (28629151 : Int); omega
theorem lbnd_top (pos : Nat) : lbnd pos ≤ 28629151 := lbnd_mono pos (pos + 5) (by omega)
theorem index_lt (l : List UInt8) (c : UInt8) : -1 ≤ Lib.indexByte l c ∧ Lib.indexByte l c < (l.length : Int) := by
  refine ⟨Lib.indexByte_ge l c, ?_⟩
  rcases Int.lt_or_le (Lib.indexByte l c) 0 with h | h
  · omega
  · obtain ⟨o, ho⟩ := Int.eq_ofNat_of_zero_le h
    have := (Lib.indexByte_some ho).1
    have := (List.getElem?_eq_some_iff.1 this).1
    omega
def RdPost (w : World) (e : Ending) (w' : World) : Prop := ∃ n k : Int, 0 ≤ n ∧ n < 28629151 ∧ 0 ≤ k ∧ k ≤ 6 ∧ e = .returned (.tuple #[.int .i64 n, .int .i64 k]) ∧ Fresh w w'
theorem readP_any (w : World) (s : ByteArray) (hs : s.size ≤ 1000) : Calls Tryz.prog 38 #[.string s] w fun e w' => RdPost w e w' := by
  by_cases h6 : s.size = 6
  · have d1 : ((s.size : Int) != 6) = false := by rw [h6]; rfl
    have HWG := zh (weighed_any w)
    have H6 := zh h6
    clear h6
    go_in
    go_wp2_with fail
    refine HWG.out.mono ?_
    rintro e w2 ⟨rfl, hwg, f2⟩
    have HG := zh hwg
    have HF := zh f2
    have hlt2 : w.heap.size + 1 < w2.heap.size := by obtain ⟨_, _, _, _, b, _⟩ := hwg; exact b.lt
    clear hwg f2
    go_wp2_with fail
    have HIT : Hid ((w2.iter s 0).heap[w2.heap.size]? = some (.stringIter s 0)) := zh (iter_here w2 s)
    have HG0 : Hid (Wgh (w2.iter s 0) w.heap.size (w.heap.size + 1) 2) := zh (HG.out.frm (iter_fresh w2 s 0) (fun f => f) (fun f => f))
    have HF0 : Hid (Fresh w (w2.iter s 0)) := zh (HF.out.trans (iter_fresh w2 s 0))
    obtain ⟨it, hit⟩ : ∃ x, x = w2.heap.size := ⟨_, rfl⟩
    rw [← hit] at HIT hlt2 ⊢
    clear hit HF HG HWG
    generalize w2.iter s 0 = w3 at HIT HG0 HF0 ⊢
    have HIX : Hid (∀ c w, Calls Tryz.prog 77 #[.string { data := #[65, 66, 67, 68, 69, 70, 71, 72, 74, 75, 76, 77, 78, 80, 81, 82, 84, 85, 86, 87, 88, 89, 90, 50, 51, 52, 53, 54, 55, 56, 57] }, .int .u8 c] w fun e w' => ∃ d : Int, -1 ≤ d ∧ d ≤ 30 ∧ e = .returned (.int .i64 d) ∧ w' = w) := zh fun c w => by
      refine (Go.Proofs.Tryz.strings_IndexByte { data := #[65, 66, 67, 68, 69, 70, 71, 72, 74, 75, 76, 77, 78, 80, 81, 82, 84, 85, 86, 87, 88, 89, 90, 50, 51, 52, 53, 54, 55, 56, 57] } c w).mono ?_
      rintro e w' ⟨rfl, rfl⟩
      have := index_lt [65, 66, 67, 68, 69, 70, 71, 72, 74, 75, 76, 77, 78, 80, 81, 82, 84, 85, 86, 87, 88, 89, 90, 50, 51, 52, 53, 54, 55, 56, 57] c.toNat.toUInt8
      refine ⟨_, this.1, ?_, rfl, rfl⟩
      have h2 := this.2
      simp only [List.length_cons, List.length_nil] at h2
      omega
    go_loopw [5, 6] (fun v5 v6 wr => ∃ (pos k : Nat) (n sm : Int), wr.heap[it]? = some (.stringIter s pos) ∧ Wgh wr w.heap.size (w.heap.size + 1) k ∧ k ≤ 2 + pos ∧ 0 ≤ n ∧ n < lbnd pos ∧ 0 ≤ sm ∧ sm ≤ 30 ∧ v5 = .int .i64 n ∧ v6 = .int .i64 sm ∧ Fresh w wr) (fun _ _ wr => s.size - wr.iterPos it)
    case atStart => exact ⟨0, 2, 0, 0, HIT.out, HG0.out, by omega, by omega, by decide, by omega, by omega, rfl, rfl, HF0.out⟩
    case round =>
      obtain ⟨pos, k, n, sm, hk, hg, hk2, hn0, hn1, hm0, hm1, rfl, rfl, hf⟩ := hrel
      have HN1 := zh hn1
      have hnt : n < 28629151 := Int.lt_of_lt_of_le hn1 (lbnd_top pos)
      have HF3 := zh hf
      have HK3 := zh hk
      have HIP : Hid (wr.iterPos it = pos) := zh (by simp [World.iterPos, hk])
      clear hn1 hf HIT HG0 HF0
      by_cases hp : pos < s.size
      · obtain ⟨w4, hnx, hk4, f4⟩ := next_at (P := Tryz.prog) hk hp 0
        have hnx' : ∀ ty, (Instr.next (.pointer (some ⟨it, 0, none⟩)) true ty).run Tryz.prog wr = .ok (.tuple #[.bool true, .int .i64 pos, .int .i32 (Utf8.decode s pos).1]) w4 := fun ty => by rw [← hnx]; rfl
        have hw1 := width1 s pos hp
        have hdl := decode_le s pos
        generalize (Utf8.decode s pos).1 = c at hnx hnx' hdl
        generalize (Utf8.decode s pos).2 = q at hk4 hw1
        have hG4 : Wgh w4 w.heap.size (w.heap.size + 1) k := hg.frm f4 (by omega) (by omega)
        have HK4 := zh hk4
        have HF4 : Hid (Fresh w w4) := zh (HF3.out.trans' f4 (fun i hi e => by omega))
        have HP : Hid (pos < 6) := zh (by rw [← H6.out]; exact hp)
        have HW4 := zh (fun d hd => weigh_any w4 _ _ k hG4 (by have := HP.out; omega) d hd)
        have HG4 := zh hG4
        have HM : Hid (∀ w' : World, w'.heap[it]? = some (.stringIter s (pos + q)) → s.size - w'.iterPos it < s.size - wr.iterPos it) := zh fun w' h' => by
          have : w'.iterPos it = pos + q := by simp [World.iterPos, h']
          rw [this, HIP.out]
          omega
        have HLM : Hid (lbnd pos ≤ lbnd (pos + q)) := zh (lbnd_mono _ _ (by omega))
        have HLM1 : Hid (lbnd (pos + 1) ≤ lbnd (pos + q)) := zh (lbnd_mono _ _ (by omega))
        have e1 : IntKind.i64.wrap (n * 31) = n * 31 := IntWalk.i64_in _ (by omega)
        have hpp : pos < 6 := HP.out
        clear hnx hk4 f4 hG4 hg hk
        go_wp2_with (first
          | (go_at_call 77; refine (HIX.out _ _).mono ?_; rintro e w5 ⟨d, hd0, hd1, rfl, rfl⟩)
          | (go_at_call 118; refine (HW4.out _ ⟨by omega, by omega⟩).mono ?_; rintro e w6 ⟨s6, hs60, hs61, rfl, hg6, f6⟩; have HG6 := zh hg6; have HF6 := zh f6; clear hg6 f6))
        all_goals first
          | (go_ret2
             exact ⟨0, 6, by omega, by omega, by omega, by omega, rfl, HF4.out⟩)
          | (have hit4 : w6.heap[it]? = some (.stringIter s (pos + q)) := (HF6.out.block it (Array.getElem?_eq_some_iff.1 HK4.out).1 (fun e => by omega)).trans HK4.out
             have HM6 := zh (HM.out _ hit4)
             have HI6 := zh hit4
             have HF7 : Hid (Fresh w w6) := zh (HF4.out.trans' HF6.out (fun i hi e => by omega))
             have HLS : Hid (0 ≤ n * 31 + d ∧ n * 31 + d < lbnd (pos + q)) := zh (by
               obtain ⟨a, b⟩ := lbnd_step (d := d) hn0 HN1.out (by omega) ⟨by omega, hd1⟩
               exact ⟨a, Int.lt_of_lt_of_le b HLM1.out⟩)
             clear hit4
             go_roundw
             case rel => exact ⟨pos + q, k + 1, _, s6, HI6.out, HG6.out, by omega, HLS.out.1, HLS.out.2, hs60, hs61, rfl, rfl, HF7.out⟩
             case measure => exact HM6.out)
          | (have HM6 := zh (HM.out _ HK4.out)
             go_roundw
             case rel => exact ⟨pos + q, k, n, sm, HK4.out, HG4.out, by omega, hn0, Int.lt_of_lt_of_le HN1.out HLM.out, hm0, hm1, rfl, rfl, HF4.out⟩
             case measure => exact HM6.out)
      · have hov := fun ty => next_over (P := Tryz.prog) hk hp ty
        clear hp
        go_wp2_with fail
        go_ret2
        exact ⟨_, 0, hn0, hnt, by omega, by omega, rfl, HF3.out⟩
  · have d1 : ((s.size : Int) != 6) = true := by rw [bne_iff_ne]; omega
    clear h6
    go_in
    go_wp2_with fail
    go_ret2
    exact ⟨0, 6, by omega, by omega, by omega, by omega, rfl, Frm.refl _ _⟩
end
end Go.Proofs.YtbeaoddjomdlcaaGreatDoor

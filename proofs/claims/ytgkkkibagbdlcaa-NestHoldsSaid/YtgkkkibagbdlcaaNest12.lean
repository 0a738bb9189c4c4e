/- The law NestHolds walked. -/
import Derived.Test.YtgkkkibagbdlcaaNest11
import Derived.StillTailTactics
import Derived.Deep.RegionHeld3
namespace Go.Proofs.Ytgkkkibagbdlcaa
open Go.RowKit NestM

theorem flatMap_at {α : Type} (f : α → List Value) (size : Nat) (hl : ∀ a, (f a).length = size) : ∀ (xs : List α) (k : Nat) (a : α), xs[k]? = some a → ∀ j, j < size → (xs.flatMap f)[k * size + j]? = (f a)[j]? := by
  intro xs
  induction xs with
  | nil => intro k a h; simp at h
  | cons x r ih =>
    intro k a h j hj
    match k, h with
    | 0, h =>
      have e : x = a := by simpa using h
      subst e
      rw [List.flatMap_cons, Nat.zero_mul, Nat.zero_add, List.getElem?_append_left (by rw [hl]; exact hj)]
    | k + 1, h =>
      rw [List.flatMap_cons, List.getElem?_append_right (by rw [hl, Nat.add_mul]; omega), hl, Nat.add_mul, Nat.one_mul, show k * size + size + j - size = k * size + j by omega]
      exact ih k a (by simpa using h) j hj
/-- the cells of a list of pairs, one by one -/
theorem pair_at {w : World} {B : Nat} {A : Option Addr} {ps : List (List Int)} (hp : ∀ p ∈ ps, p.length = 2) (h : Rd w B A (ps.flatMap i64f)) {k : Nat} (hk : k < ps.length) :
    ∃ b o x y, A = some ⟨b, o, none⟩ ∧ b < B ∧ w.cell? ⟨b, o + k * 2, none⟩ = some (.int .i64 x) ∧ w.cell? ⟨b, o + k * 2 + 1, none⟩ = some (.int .i64 y) ∧ ps[k] = [x, y] := by
  obtain ⟨x, y, hxy⟩ := two_of (hp _ (List.getElem_mem hk))
  have hf : ∀ (qs : List (List Int)), (∀ p ∈ qs, p.length = 2) → ∀ (k : Nat) (a : List Int), qs[k]? = some a → ∀ j, j < 2 → (qs.flatMap i64f)[k * 2 + j]? = (i64f a)[j]? := by
    intro qs
    induction qs with
    | nil => intro _ k a h; simp at h
    | cons q r ih =>
      intro hq k a h j hj
      have hlen : (i64f q).length = 2 := by
        obtain ⟨u, v, rfl⟩ := two_of (hq q (by simp))
        rfl
      match k, h with
      | 0, h =>
        have e : q = a := by simpa using h
        subst e
        rw [List.flatMap_cons, Nat.zero_mul, Nat.zero_add, List.getElem?_append_left (by rw [hlen]; exact hj)]
      | k + 1, h =>
        rw [List.flatMap_cons, List.getElem?_append_right (by rw [hlen]; omega), hlen, show (k + 1) * 2 + j - 2 = k * 2 + j by omega]
        exact ih (fun p hp => hq p (by simp [hp])) k a (by simpa using h) j hj
  have hx : ps[k]? = some ps[k] := List.getElem?_eq_getElem hk
  have c0 := hf ps hp k _ hx 0 (by omega)
  have c1 := hf ps hp k _ hx 1 (by omega)
  rw [hxy] at c0 c1
  obtain ⟨b, o, hA, hbB, hc⟩ := h (fun e => by rw [e] at c0; simp [i64f] at c0)
  refine ⟨b, o, x, y, hA, hbB, ?_, ?_, hxy⟩
  · exact hc _ _ c0
  · rw [Nat.add_assoc]; exact hc _ _ c1

def zarr (n : Nat) : Array Value := ((List.replicate n 0).map iv).toArray
theorem made_ints (n : Nat) : madeCells (Value.int .i64 0).cells (n * 1) = zarr n := by
  unfold zarr
  apply Array.ext_getElem?
  intro j
  rw [Nat.mul_one]
  by_cases h : j < n
  · simp [madeCells, h, iv, Value.cells, Nat.mod_one]
  · simp [madeCells, h]
theorem make_ints (n : Nat) (hn : n ≤ 1000) (w : World) : (Instr.makeSlice 22 (.int .i64 (n : Int)) (.int .i64 (n : Int))).run Try.prog w = .ok (.slice (some ⟨w.heap.size, 0, none⟩) n n) (w.alloc (.cells (zarr n) 3)) := by
  obtain ⟨i0, hi, hz0, hz1, hz2⟩ := info_parts info_int
  have hr := run_make (P := Try.prog) w 22 3 i0 _ Try.underlying22 hi hz0 .i64 .i64 n n (by omega) (Int.le_refl _) (by rw [hz2]; omega) (by omega)
  simp only [Int.toNat_natCast] at hr
  rw [hr, hz1, made_ints]
theorem zeros_len (n : Nat) : (List.replicate n (0 : Int)).length = n := List.length_replicate
theorem least_full {l s : List Int} {c : Nat} (hr : Right l s) (hc : c < l.length) : Asked l s (c : Int) := ⟨hr, by omega, by omega⟩
theorem right_len {l s : List Int} (h : Right l s) : l.length ≤ 8 ∧ s.length = l.length := ⟨h.1.1.2.1, h.1.1.2.2⟩

/-- a slice that reads as sales that may be -/
structure Sold (l : List Int) (w wr : World) (S : Option Addr) (cS : Nat) (t : List Int) : Prop where
  right : Right l t
  rd : Rd wr wr.heap.size S (t.map iv)
  le : t.length ≤ cS
  most : cS ≤ maxLen
  frm : Fresh w wr
theorem Sold.next {l : List Int} {w wr w2 : World} {S : Option Addr} {cS : Nat} {t : List Int} (h : Sold l w wr S cS t) (F : Fresh wr w2) : Sold l w w2 S cS t :=
  ⟨h.right, (h.rd.fresh (Nat.le_refl _) F).more F.size, h.le, h.most, h.frm.trans F⟩
theorem lim_at {w wr : World} {A : Option Addr} {l : List Int} (h : Rd w w.heap.size A (l.map iv)) (F : Fresh w wr) : Rd wr wr.heap.size A (l.map iv) := (h.fresh (Nat.le_refl _) F).more F.size
/-- what a sale that went through left -/
theorem sold_ok {l t : List Int} {c m y : Int} (hr : Right l t) (h : SellE l t c m y) (hy : y = 0) : Right l (plus t c.toNat m) := by
  rcases h with ⟨ha, h1, h2, h3, _⟩ | ⟨_, _, _, _, h⟩ | ⟨_, h⟩
  · obtain ⟨k, rfl⟩ := Int.eq_ofNat_of_zero_le ha.2.1
    rw [Int.toNat_natCast]
    exact right_sale hr (by have := ha.2.2; omega) h1 h3
  · omega
  · omega
theorem back_ok {l t : List Int} {c m y : Int} (hr : Right l t) (h : BackE l t c m y) (hy : y = 0) : Right l (plus t c.toNat (-m)) := by
  rcases h with ⟨ha, h1, h2, _⟩ | ⟨_, h⟩
  · obtain ⟨k, rfl⟩ := Int.eq_ofNat_of_zero_le ha.2.1
    rw [Int.toNat_natCast] at h2 ⊢
    exact right_back hr (by have := ha.2.2; omega) h1 h2
  · omega
theorem sellE_y {l t : List Int} {c m y : Int} (h : SellE l t c m y) : y = 0 ∨ y = 1 ∨ y = 3 := by
  rcases h with ⟨_, _, _, _, h⟩ | ⟨_, _, _, _, h⟩ | ⟨_, h⟩ <;> omega
theorem backE_y {l t : List Int} {c m y : Int} (h : BackE l t c m y) : y = 0 ∨ y = 1 := by
  rcases h with ⟨_, _, _, h⟩ | ⟨_, h⟩ <;> omega

set_option maxRecDepth 100000 in
set_option maxHeartbeats 4000000 in
theorem holds_walk (w : World) (A : Option Addr) (ca : Nat) (l : List Int) (hl : IsInts .i64 w A ca l) (_ : ca * 8 ≤ 140737488351232) (s : Option Addr × Nat × List (List Int)) (hs : IsL w 16 i64f (fun xs => xs.length = 2 ∧ ∀ x ∈ xs, (Lit.int .i64 x).wf = true) s) :
    Calls Try.prog 7 #[.slice A l.length ca, sv s] w fun e w' => e = .returned (.bool true) ∧ Below w.heap.size w w' := by
  obtain ⟨P, cp, ps⟩ := s
  have HL : Hid (Rd w w.heap.size A (l.map iv)) := Lib.hid hl.rd
  have HP : Hid (Rd w w.heap.size P (ps.flatMap i64f)) := Lib.hid hs.rd
  have HPL : Hid (∀ p ∈ ps, p.length = 2) := Lib.hid (fun p hp => (hs.all p hp).1)
  have HPW : Hid (∀ p ∈ ps, ∀ x ∈ p, (Lit.int .i64 x).wf = true) := Lib.hid (fun p hp => (hs.all p hp).2)
  have hpl : ps.length ≤ 9223372036854775807 := by have := hs.le; have := hs.most; unfold maxLen at this; simp at *; omega
  have hll : l.length ≤ 9223372036854775807 := by have := hl.le; have := hl.most; unfold maxLen at this; omega
  clear hl hs
  unfold sv
  by_cases h20 : 20 < l.length
  · have hmk := make_ints 20 (by omega)
    rw [show ((20 : Nat) : Int) = 20 from rfl] at hmk
    have h20' : (20 : Int) < (l.length : Int) := by omega
    have h20'' : (20 : Int) ≤ (l.length : Int) := by omega
    have HNR := Lib.hid (show ∀ t, ¬ Right l t from fun t hr => by have := (right_len hr).1; omega)
    go_enter Try.func7, Try.ntmps7
    go_wp2_with fail
    refine (awake_any _).mono ?_
    rintro e w1 ⟨rfl, F1⟩
    have HF1 := Lib.hid F1
    clear F1
    go_wp2_with fail
    have F2 : Fresh w (w1.alloc (.cells (zarr 20) 3)) := HF1.out.alloc _
    have hz : Rd (w1.alloc (.cells (zarr 20) 3)) (w1.alloc (.cells (zarr 20) 3)).heap.size (some ⟨w1.heap.size, 0, none⟩) ((List.replicate 20 (0 : Int)).map iv) := (rd_new w1 _ _).more (by simp)
    refine (right_any (w1.alloc (.cells (zarr 20) 3)) A ca l (some ⟨w1.heap.size, 0, none⟩) 20 (List.replicate 20 (0 : Int)) (lim_at HL.out F2) hz).mono ?_
    rintro e w3 ⟨b, n, rfl, rfl, hb⟩
    obtain rfl : b = false := by
      cases b with
      | false => rfl
      | true => exact absurd (hb.1 rfl) (HNR.out _)
    have HF3 : Hid (Below w.heap.size w ((w1.alloc (.cells (zarr 20) 3)).drewN n)) := Lib.hid (Fresh.below (F2.drewN n))
    clear hb F2 hz
    go_wp2_with fail
    go_ret
    exact ⟨by simp, HF3.out⟩
  have hmk := make_ints l.length (by omega)
  have hl20 : (l.length : Int) ≤ 20 := by omega
  go_enter Try.func7, Try.ntmps7
  go_wp2_with fail
  refine (awake_any _).mono ?_
  rintro e w1 ⟨rfl, F1⟩
  have HF1 := Lib.hid F1
  clear F1
  go_wp2_with fail
  have F2 : Fresh w (w1.alloc (.cells (zarr l.length) 3)) := HF1.out.alloc _
  have hz : Rd (w1.alloc (.cells (zarr l.length) 3)) (w1.alloc (.cells (zarr l.length) 3)).heap.size (some ⟨w1.heap.size, 0, none⟩) ((List.replicate l.length (0 : Int)).map iv) := (rd_new w1 _ _).more (by simp)
  obtain ⟨z, hzz, hzl⟩ : ∃ z, z = List.replicate l.length (0 : Int) ∧ z.length = l.length := ⟨_, rfl, zeros_len _⟩
  rw [← hzz] at hz
  have HRA := right_any (w1.alloc (.cells (zarr l.length) 3)) A ca l (some ⟨w1.heap.size, 0, none⟩) l.length z (lim_at HL.out F2) hz
  rw [hzl] at HRA
  refine HRA.mono ?_
  rintro e w3 ⟨b, n, rfl, rfl, hb⟩
  have HZL := Lib.hid hzl
  have HZ := Lib.hid (hz.drewN n)
  have HF3 : Hid (Fresh w ((w1.alloc (.cells (zarr l.length) 3)).drewN n)) := Lib.hid (F2.drewN n)
  have HBR := Lib.hid hb
  clear hb F2 hz HRA hzz hzl
  cases b with
  | false =>
    go_wp2_with fail
    go_ret
    exact ⟨by simp, HF3.out.below⟩
  | true =>
    have hr0 := HBR.out.1 rfl
    have hl8 : l.length ≤ 8 := (right_len hr0).1
    have HS0 : Hid (Sold l w ((w1.alloc (.cells (zarr l.length) 3)).drewN n) (some ⟨w1.heap.size, 0, none⟩) l.length z) := Lib.hid ⟨hr0, HZ.out, by rw [HZL.out]; omega, by unfold maxLen; omega, HF3.out⟩
    clear hr0 hmk
    go_wp2_with fail
    go_loopw [6, 8] (fun v6 v8 wr => ∃ (k : Nat) (S : Option Addr) (cS : Nat) (t : List Int), k ≤ ps.length ∧ k ≤ 100 ∧ v8 = .int .i64 (k : Int) ∧ v6 = .slice S t.length cS ∧ Sold l w wr S cS t) (fun _ v8 _ => (100 - intOf v8).toNat)
    case atStart => exact ⟨0, some ⟨w1.heap.size, 0, none⟩, l.length, z, by omega, by omega, rfl, by rw [HZL.out], HS0.out⟩
    case round =>
      obtain ⟨k, S, cS, t, hk, hk1, rfl, rfl, hS⟩ := hrel
      have HS := Lib.hid hS
      clear hS HS0 HZ HF3 HBR
      by_cases hkl : k < ps.length ∧ k < 100
      · obtain ⟨hk2, hk3⟩ := hkl
        obtain ⟨b, o, x, y, rfl, hbw, c0, c1, hxy⟩ := pair_at HPL.out HP.out hk2
        have CELL : Hid (∀ wq, Fresh w wq → wq.cell? ⟨b, o + k * 2, none⟩ = some (.int .i64 x) ∧ wq.cell? ⟨b, o + k * 2 + 1, none⟩ = some (.int .i64 y)) := Lib.hid fun wq F =>
          ⟨(F.cell (p := ⟨b, o + k * 2, none⟩) hbw (fun f => f)).trans c0, (F.cell (p := ⟨b, o + k * 2 + 1, none⟩) hbw (fun f => f)).trans c1⟩
        clear c0 c1
        have c0 := (CELL.out _ HS.out.frm).1
        have c1 := (CELL.out _ HS.out.frm).2
        have hwy : (Lit.int .i64 y).wf = true := HPW.out _ (List.getElem_mem hk2) y (by rw [hxy]; simp)
        clear hxy
        have hk0 : (0 : Int) ≤ k := by omega
        have hk2' : (k : Int) < ps.length := by omega
        have htl : t.length = l.length := (right_len HS.out.right).2
        have HTL := Lib.hid htl
        have hcS := HS.out.le
        have hmS := HS.out.most
        clear htl
        by_cases hy : 0 < y
        · have dy : decide (0 < y) = true := by simpa using hy
          go_wp2_with fail
          have HSD : Hid (Sold l w wr.drew S cS t) := Lib.hid (HS.out.next ((Frm.refl (fun _ => False) wr).drew))
          go_region_held3 (fun w' => w'.cell? ⟨b, o + k * 2, none⟩ = some (.int .i64 x) ∧ w'.cell? ⟨b, o + k * 2 + 1, none⟩ = some (.int .i64 y))
            (first | exact CELL.out _ HS.out.frm | exact CELL.out _ HSD.out.frm | exact CELL.out _ (HSD.out.frm.trans HF5.out))
            (first
              | (go_at_call 15; show Calls _ _ #[.slice A l.length ca, .slice S t.length cS, .int .i64 x, .int .i64 y] wr.drew _; refine (sell_any wr.drew A ca l S cS t x y (lim_at HL.out HSD.out.frm) HSD.out.rd hcS hmS).mono ?_; intro e w5 h5; obtain ⟨A5, cap5, t5, y5, rfl, E5, F5, R5, c5, m5, q5⟩ := sold_rd h5; have HF5 := Lib.hid F5; have HE5 := Lib.hid E5; have HR5 := Lib.hid R5; have HQ5 := Lib.hid q5; clear h5 E5 F5 R5 q5))
          have E5 := HE5.out
          have F5 := HF5.out
          have R5 := HR5.out
          have q5 := HQ5.out
          clear HE5 HF5 HR5 HQ5 c0 c1
          rcases sellE_y E5 with rfl | rfl | rfl
          · rw [if_pos rfl] at q5
            have HT : Hid (Sold l w w5 A5 cap5 t5) := Lib.hid ⟨by rw [q5]; exact sold_ok HSD.out.right E5 rfl, R5, c5, m5, HSD.out.frm.trans F5⟩
            clear E5 F5 R5 c5 m5 q5
            have hT1 := HT.out.le
            have hT2 := HT.out.most
            go_wp2_with fail
            refine (right_any w5 A ca l A5 cap5 t5 (lim_at HL.out HT.out.frm) HT.out.rd).mono ?_
            rintro e w6 ⟨b6, n6, rfl, rfl, hb6⟩
            obtain rfl : b6 = true := hb6.2 HT.out.right
            have HT6 : Hid (Sold l w (w5.drewN n6) A5 cap5 t5) := Lib.hid (HT.out.next ((Frm.refl (fun _ => False) w5).drewN n6))
            generalize w5.drewN n6 = w6 at HT6
            clear hb6
            go_wp2_with fail
            go_loopw [11, 12] (fun v11 v12 wq => ∃ q : Nat, q ≤ l.length ∧ v12 = .int .i64 (q : Int) ∧ v11 = .int .i64 (leastUp l t5 q) ∧ Sold l w wq A5 cap5 t5) (fun _ v12 _ => (l.length - intOf v12).toNat)
            case atStart => exact ⟨0, by omega, rfl, rfl, HT6.out⟩
            case round =>
              obtain ⟨q, hq, rfl, rfl, hSq⟩ := hrel
              have HQ := Lib.hid hSq
              clear hSq HT6
              by_cases hql : q < l.length
              · have hql' : (q : Int) < l.length := by omega
                have hq0 : (0 : Int) ≤ q := by omega
                have HASK := Lib.hid (least_full HQ.out.right hql)
                go_wp2_with fail
                refine (left_any _ A ca l A5 cap5 t5 (q : Int) (lim_at HL.out HQ.out.frm) HQ.out.rd).mono ?_
                rintro e w7 ⟨n7, y7, rfl, F7, hx7⟩
                obtain ⟨rfl, he7⟩ := leftIs_ask hx7 HASK.out
                have HT7 := Lib.hid (HQ.out.next F7)
                have HE7 := Lib.hid he7
                have hn0 : 0 ≤ n7 := by rw [he7]; exact least_pos HQ.out.right hql
                have hn1 : n7 ≤ 10000 := by rw [he7]; exact least_le hql
                have hnu : n7 = leastUp l t5 (q + 1) := by rw [he7]; exact least_up hql
                have hmono : n7 ≤ leastUp l t5 q := by rw [hnu, leastUp]; omega
                have HNU := Lib.hid hnu
                clear F7 hx7 he7 hnu
                generalize leastUp l t5 q = bf at hmono
                go_wp2_with fail
                refine (sell_any w7 A ca l A5 cap5 t5 (q : Int) n7 (lim_at HL.out HT7.out.frm) HT7.out.rd hT1 hT2).mono ?_
                intro e w8 h8
                obtain ⟨A8, cap8, t8, y8, rfl, E8, F8, R8, c8, m8, q8⟩ := sold_rd h8
                have HT8 := Lib.hid (HT7.out.next F8)
                have HE8 := Lib.hid E8
                clear h8 E8 F8 R8 c8 m8 q8
                go_wp2_with fail
                refine (sell_any w8 A ca l A5 cap5 t5 (q : Int) (n7 + 1) (lim_at HL.out HT8.out.frm) HT8.out.rd hT1 hT2).mono ?_
                intro e w9 h9
                obtain ⟨A9, cap9, t9, y9, rfl, E9, F9, R9, c9, m9, q9⟩ := sold_rd h9
                have HT9 := Lib.hid (HT8.out.next F9)
                have HE9 := Lib.hid E9
                clear h9 E9 F9 R9 c9 m9 q9
                have d1 : decide (n7 < 0) = false := by simpa using hn0
                have d2 : decide (bf < n7) = false := by simpa using hmono
                by_cases hz : n7 = 0
                · have hy9 : y9 = 3 := by
                    refine SellE.same HE9.out (.inr (.inl ⟨HASK.out, by omega, by omega, ?_, rfl⟩))
                    rw [← HE7.out]
                    omega
                  subst hz hy9
                  go_wp2_with fail
                  go_roundw
                  case rel => exact ⟨q + 1, by omega, by go_num, by rw [HNU.out], HT9.out⟩
                  case measure => simp [intOf]; omega
                have hy8 : y8 = 0 := by
                  refine SellE.same HE8.out (.inl ⟨HASK.out, by omega, by omega, ?_, rfl⟩)
                  rw [← HE7.out]
                  omega
                subst hy8
                have d3 : decide (0 < n7) = true := by simp; omega
                by_cases hf : n7 < 10000
                · have hy9 : y9 = 3 := by
                    refine SellE.same HE9.out (.inr (.inl ⟨HASK.out, by omega, by omega, ?_, rfl⟩))
                    rw [← HE7.out]
                    omega
                  subst hy9
                  have d4 : decide (n7 < 10000) = true := by simpa using hf
                  go_wp2_with fail
                  go_roundw
                  case rel => exact ⟨q + 1, by omega, by go_num, by rw [HNU.out], HT9.out⟩
                  case measure => simp [intOf]; omega
                · have d4 : decide (n7 < 10000) = false := by simpa using hf
                  go_wp2_with fail
                  go_roundw
                  case rel => exact ⟨q + 1, by omega, by go_num, by rw [HNU.out], HT9.out⟩
                  case measure => simp [intOf]; omega
              · obtain rfl : q = l.length := by omega
                go_wp2_with fail
                go_roundw
                case rel => exact ⟨k + 1, A5, cap5, t5, by omega, by omega, by go_num, rfl, HQ.out⟩
                case measure => simp [intOf]; omega
          · have HT : Hid (Sold l w w5 S cS t) := Lib.hid (HSD.out.next F5)
            clear E5 F5 R5 c5 m5 q5
            have hT1 := HT.out.le
            have hT2 := HT.out.most
            go_wp2_with fail
            refine (right_any w5 A ca l S cS t (lim_at HL.out HT.out.frm) HT.out.rd).mono ?_
            rintro e w6 ⟨b6, n6, rfl, rfl, hb6⟩
            obtain rfl : b6 = true := hb6.2 HT.out.right
            have HT6 : Hid (Sold l w (w5.drewN n6) S cS t) := Lib.hid (HT.out.next ((Frm.refl (fun _ => False) w5).drewN n6))
            generalize w5.drewN n6 = w6 at HT6
            clear hb6
            go_wp2_with fail
            go_loopw [11, 12] (fun v11 v12 wq => ∃ q : Nat, q ≤ l.length ∧ v12 = .int .i64 (q : Int) ∧ v11 = .int .i64 (leastUp l t q) ∧ Sold l w wq S cS t) (fun _ v12 _ => (l.length - intOf v12).toNat)
            case atStart => exact ⟨0, by omega, rfl, rfl, HT6.out⟩
            case round =>
              obtain ⟨q, hq, rfl, rfl, hSq⟩ := hrel
              have HQ := Lib.hid hSq
              clear hSq HT6
              by_cases hql : q < l.length
              · have hql' : (q : Int) < l.length := by omega
                have hq0 : (0 : Int) ≤ q := by omega
                have HASK := Lib.hid (least_full HQ.out.right hql)
                go_wp2_with fail
                refine (left_any _ A ca l S cS t (q : Int) (lim_at HL.out HQ.out.frm) HQ.out.rd).mono ?_
                rintro e w7 ⟨n7, y7, rfl, F7, hx7⟩
                obtain ⟨rfl, he7⟩ := leftIs_ask hx7 HASK.out
                have HT7 := Lib.hid (HQ.out.next F7)
                have HE7 := Lib.hid he7
                have hn0 : 0 ≤ n7 := by rw [he7]; exact least_pos HQ.out.right hql
                have hn1 : n7 ≤ 10000 := by rw [he7]; exact least_le hql
                have hnu : n7 = leastUp l t (q + 1) := by rw [he7]; exact least_up hql
                have hmono : n7 ≤ leastUp l t q := by rw [hnu, leastUp]; omega
                have HNU := Lib.hid hnu
                clear F7 hx7 he7 hnu
                generalize leastUp l t q = bf at hmono
                go_wp2_with fail
                refine (sell_any w7 A ca l S cS t (q : Int) n7 (lim_at HL.out HT7.out.frm) HT7.out.rd hT1 hT2).mono ?_
                intro e w8 h8
                obtain ⟨A8, cap8, t8, y8, rfl, E8, F8, R8, c8, m8, q8⟩ := sold_rd h8
                have HT8 := Lib.hid (HT7.out.next F8)
                have HE8 := Lib.hid E8
                clear h8 E8 F8 R8 c8 m8 q8
                go_wp2_with fail
                refine (sell_any w8 A ca l S cS t (q : Int) (n7 + 1) (lim_at HL.out HT8.out.frm) HT8.out.rd hT1 hT2).mono ?_
                intro e w9 h9
                obtain ⟨A9, cap9, t9, y9, rfl, E9, F9, R9, c9, m9, q9⟩ := sold_rd h9
                have HT9 := Lib.hid (HT8.out.next F9)
                have HE9 := Lib.hid E9
                clear h9 E9 F9 R9 c9 m9 q9
                have d1 : decide (n7 < 0) = false := by simpa using hn0
                have d2 : decide (bf < n7) = false := by simpa using hmono
                by_cases hz : n7 = 0
                · have hy9 : y9 = 3 := by
                    refine SellE.same HE9.out (.inr (.inl ⟨HASK.out, by omega, by omega, ?_, rfl⟩))
                    rw [← HE7.out]
                    omega
                  subst hz hy9
                  go_wp2_with fail
                  go_roundw
                  case rel => exact ⟨q + 1, by omega, by go_num, by rw [HNU.out], HT9.out⟩
                  case measure => simp [intOf]; omega
                have hy8 : y8 = 0 := by
                  refine SellE.same HE8.out (.inl ⟨HASK.out, by omega, by omega, ?_, rfl⟩)
                  rw [← HE7.out]
                  omega
                subst hy8
                have d3 : decide (0 < n7) = true := by simp; omega
                by_cases hf : n7 < 10000
                · have hy9 : y9 = 3 := by
                    refine SellE.same HE9.out (.inr (.inl ⟨HASK.out, by omega, by omega, ?_, rfl⟩))
                    rw [← HE7.out]
                    omega
                  subst hy9
                  have d4 : decide (n7 < 10000) = true := by simpa using hf
                  go_wp2_with fail
                  go_roundw
                  case rel => exact ⟨q + 1, by omega, by go_num, by rw [HNU.out], HT9.out⟩
                  case measure => simp [intOf]; omega
                · have d4 : decide (n7 < 10000) = false := by simpa using hf
                  go_wp2_with fail
                  go_roundw
                  case rel => exact ⟨q + 1, by omega, by go_num, by rw [HNU.out], HT9.out⟩
                  case measure => simp [intOf]; omega
              · obtain rfl : q = l.length := by omega
                go_wp2_with fail
                go_roundw
                case rel => exact ⟨k + 1, S, cS, t, by omega, by omega, by go_num, rfl, HQ.out⟩
                case measure => simp [intOf]; omega
          · have HT : Hid (Sold l w w5 S cS t) := Lib.hid (HSD.out.next F5)
            clear E5 F5 R5 c5 m5 q5
            have hT1 := HT.out.le
            have hT2 := HT.out.most
            go_wp2_with fail
            refine (right_any w5 A ca l S cS t (lim_at HL.out HT.out.frm) HT.out.rd).mono ?_
            rintro e w6 ⟨b6, n6, rfl, rfl, hb6⟩
            obtain rfl : b6 = true := hb6.2 HT.out.right
            have HT6 : Hid (Sold l w (w5.drewN n6) S cS t) := Lib.hid (HT.out.next ((Frm.refl (fun _ => False) w5).drewN n6))
            generalize w5.drewN n6 = w6 at HT6
            clear hb6
            go_wp2_with fail
            go_loopw [11, 12] (fun v11 v12 wq => ∃ q : Nat, q ≤ l.length ∧ v12 = .int .i64 (q : Int) ∧ v11 = .int .i64 (leastUp l t q) ∧ Sold l w wq S cS t) (fun _ v12 _ => (l.length - intOf v12).toNat)
            case atStart => exact ⟨0, by omega, rfl, rfl, HT6.out⟩
            case round =>
              obtain ⟨q, hq, rfl, rfl, hSq⟩ := hrel
              have HQ := Lib.hid hSq
              clear hSq HT6
              by_cases hql : q < l.length
              · have hql' : (q : Int) < l.length := by omega
                have hq0 : (0 : Int) ≤ q := by omega
                have HASK := Lib.hid (least_full HQ.out.right hql)
                go_wp2_with fail
                refine (left_any _ A ca l S cS t (q : Int) (lim_at HL.out HQ.out.frm) HQ.out.rd).mono ?_
                rintro e w7 ⟨n7, y7, rfl, F7, hx7⟩
                obtain ⟨rfl, he7⟩ := leftIs_ask hx7 HASK.out
                have HT7 := Lib.hid (HQ.out.next F7)
                have HE7 := Lib.hid he7
                have hn0 : 0 ≤ n7 := by rw [he7]; exact least_pos HQ.out.right hql
                have hn1 : n7 ≤ 10000 := by rw [he7]; exact least_le hql
                have hnu : n7 = leastUp l t (q + 1) := by rw [he7]; exact least_up hql
                have hmono : n7 ≤ leastUp l t q := by rw [hnu, leastUp]; omega
                have HNU := Lib.hid hnu
                clear F7 hx7 he7 hnu
                generalize leastUp l t q = bf at hmono
                go_wp2_with fail
                refine (sell_any w7 A ca l S cS t (q : Int) n7 (lim_at HL.out HT7.out.frm) HT7.out.rd hT1 hT2).mono ?_
                intro e w8 h8
                obtain ⟨A8, cap8, t8, y8, rfl, E8, F8, R8, c8, m8, q8⟩ := sold_rd h8
                have HT8 := Lib.hid (HT7.out.next F8)
                have HE8 := Lib.hid E8
                clear h8 E8 F8 R8 c8 m8 q8
                go_wp2_with fail
                refine (sell_any w8 A ca l S cS t (q : Int) (n7 + 1) (lim_at HL.out HT8.out.frm) HT8.out.rd hT1 hT2).mono ?_
                intro e w9 h9
                obtain ⟨A9, cap9, t9, y9, rfl, E9, F9, R9, c9, m9, q9⟩ := sold_rd h9
                have HT9 := Lib.hid (HT8.out.next F9)
                have HE9 := Lib.hid E9
                clear h9 E9 F9 R9 c9 m9 q9
                have d1 : decide (n7 < 0) = false := by simpa using hn0
                have d2 : decide (bf < n7) = false := by simpa using hmono
                by_cases hz : n7 = 0
                · have hy9 : y9 = 3 := by
                    refine SellE.same HE9.out (.inr (.inl ⟨HASK.out, by omega, by omega, ?_, rfl⟩))
                    rw [← HE7.out]
                    omega
                  subst hz hy9
                  go_wp2_with fail
                  go_roundw
                  case rel => exact ⟨q + 1, by omega, by go_num, by rw [HNU.out], HT9.out⟩
                  case measure => simp [intOf]; omega
                have hy8 : y8 = 0 := by
                  refine SellE.same HE8.out (.inl ⟨HASK.out, by omega, by omega, ?_, rfl⟩)
                  rw [← HE7.out]
                  omega
                subst hy8
                have d3 : decide (0 < n7) = true := by simp; omega
                by_cases hf : n7 < 10000
                · have hy9 : y9 = 3 := by
                    refine SellE.same HE9.out (.inr (.inl ⟨HASK.out, by omega, by omega, ?_, rfl⟩))
                    rw [← HE7.out]
                    omega
                  subst hy9
                  have d4 : decide (n7 < 10000) = true := by simpa using hf
                  go_wp2_with fail
                  go_roundw
                  case rel => exact ⟨q + 1, by omega, by go_num, by rw [HNU.out], HT9.out⟩
                  case measure => simp [intOf]; omega
                · have d4 : decide (n7 < 10000) = false := by simpa using hf
                  go_wp2_with fail
                  go_roundw
                  case rel => exact ⟨q + 1, by omega, by go_num, by rw [HNU.out], HT9.out⟩
                  case measure => simp [intOf]; omega
              · obtain rfl : q = l.length := by omega
                go_wp2_with fail
                go_roundw
                case rel => exact ⟨k + 1, S, cS, t, by omega, by omega, by go_num, rfl, HQ.out⟩
                case measure => simp [intOf]; omega
        · have dy : decide (0 < y) = false := by simpa using hy
          by_cases hy2 : -20000 < y
          · have dy2 : decide (-20000 < y) = true := by simpa using hy2
            have hneg : y ≤ 0 := by omega
            have HNG := Lib.hid (show IntKind.i64.wrap (-y) = -y from by rw [IntKind.wrap_i64]; omega)
            go_wp2_with fail
            have HSD : Hid (Sold l w wr.drew S cS t) := Lib.hid (HS.out.next ((Frm.refl (fun _ => False) wr).drew))
            go_region_held3 (fun w' => w'.cell? ⟨b, o + k * 2, none⟩ = some (.int .i64 x) ∧ w'.cell? ⟨b, o + k * 2 + 1, none⟩ = some (.int .i64 y))
              (first | exact CELL.out _ HS.out.frm | exact CELL.out _ HSD.out.frm | exact CELL.out _ (HSD.out.frm.trans HF5.out))
              (first
                | (go_at_call 18; show Calls _ _ #[.slice A l.length ca, .slice S t.length cS, .int .i64 x, .int .i64 (IntKind.i64.wrap (-y))] wr.drew _; rw [HNG.out]; refine (back_any wr.drew A ca l S cS t x (-y) (lim_at HL.out HSD.out.frm) HSD.out.rd hcS hmS).mono ?_; intro e w5 h5; obtain ⟨A5, cap5, t5, y5, rfl, E5, F5, R5, c5, m5, q5⟩ := sold_rd h5; have HF5 := Lib.hid F5; have HE5 := Lib.hid E5; have HR5 := Lib.hid R5; have HQ5 := Lib.hid q5; clear h5 E5 F5 R5 q5))
            have E5 := HE5.out
            have F5 := HF5.out
            have R5 := HR5.out
            have q5 := HQ5.out
            clear HE5 HF5 HR5 HQ5 c0 c1
            rcases backE_y E5 with rfl | rfl
            · rw [if_pos rfl] at q5
              have HT : Hid (Sold l w w5 A5 cap5 t5) := Lib.hid ⟨by rw [q5]; exact back_ok HSD.out.right E5 rfl, R5, c5, m5, HSD.out.frm.trans F5⟩
              clear E5 F5 R5 c5 m5 q5
              have hT1 := HT.out.le
              have hT2 := HT.out.most
              go_wp2_with fail
              refine (right_any w5 A ca l A5 cap5 t5 (lim_at HL.out HT.out.frm) HT.out.rd).mono ?_
              rintro e w6 ⟨b6, n6, rfl, rfl, hb6⟩
              obtain rfl : b6 = true := hb6.2 HT.out.right
              have HT6 : Hid (Sold l w (w5.drewN n6) A5 cap5 t5) := Lib.hid (HT.out.next ((Frm.refl (fun _ => False) w5).drewN n6))
              generalize w5.drewN n6 = w6 at HT6
              clear hb6
              go_wp2_with fail
              go_loopw [11, 12] (fun v11 v12 wq => ∃ q : Nat, q ≤ l.length ∧ v12 = .int .i64 (q : Int) ∧ v11 = .int .i64 (leastUp l t5 q) ∧ Sold l w wq A5 cap5 t5) (fun _ v12 _ => (l.length - intOf v12).toNat)
              case atStart => exact ⟨0, by omega, rfl, rfl, HT6.out⟩
              case round =>
                obtain ⟨q, hq, rfl, rfl, hSq⟩ := hrel
                have HQ := Lib.hid hSq
                clear hSq HT6
                by_cases hql : q < l.length
                · have hql' : (q : Int) < l.length := by omega
                  have hq0 : (0 : Int) ≤ q := by omega
                  have HASK := Lib.hid (least_full HQ.out.right hql)
                  go_wp2_with fail
                  refine (left_any _ A ca l A5 cap5 t5 (q : Int) (lim_at HL.out HQ.out.frm) HQ.out.rd).mono ?_
                  rintro e w7 ⟨n7, y7, rfl, F7, hx7⟩
                  obtain ⟨rfl, he7⟩ := leftIs_ask hx7 HASK.out
                  have HT7 := Lib.hid (HQ.out.next F7)
                  have HE7 := Lib.hid he7
                  have hn0 : 0 ≤ n7 := by rw [he7]; exact least_pos HQ.out.right hql
                  have hn1 : n7 ≤ 10000 := by rw [he7]; exact least_le hql
                  have hnu : n7 = leastUp l t5 (q + 1) := by rw [he7]; exact least_up hql
                  have hmono : n7 ≤ leastUp l t5 q := by rw [hnu, leastUp]; omega
                  have HNU := Lib.hid hnu
                  clear F7 hx7 he7 hnu
                  generalize leastUp l t5 q = bf at hmono
                  go_wp2_with fail
                  refine (sell_any w7 A ca l A5 cap5 t5 (q : Int) n7 (lim_at HL.out HT7.out.frm) HT7.out.rd hT1 hT2).mono ?_
                  intro e w8 h8
                  obtain ⟨A8, cap8, t8, y8, rfl, E8, F8, R8, c8, m8, q8⟩ := sold_rd h8
                  have HT8 := Lib.hid (HT7.out.next F8)
                  have HE8 := Lib.hid E8
                  clear h8 E8 F8 R8 c8 m8 q8
                  go_wp2_with fail
                  refine (sell_any w8 A ca l A5 cap5 t5 (q : Int) (n7 + 1) (lim_at HL.out HT8.out.frm) HT8.out.rd hT1 hT2).mono ?_
                  intro e w9 h9
                  obtain ⟨A9, cap9, t9, y9, rfl, E9, F9, R9, c9, m9, q9⟩ := sold_rd h9
                  have HT9 := Lib.hid (HT8.out.next F9)
                  have HE9 := Lib.hid E9
                  clear h9 E9 F9 R9 c9 m9 q9
                  have d1 : decide (n7 < 0) = false := by simpa using hn0
                  have d2 : decide (bf < n7) = false := by simpa using hmono
                  by_cases hz : n7 = 0
                  · have hy9 : y9 = 3 := by
                      refine SellE.same HE9.out (.inr (.inl ⟨HASK.out, by omega, by omega, ?_, rfl⟩))
                      rw [← HE7.out]
                      omega
                    subst hz hy9
                    go_wp2_with fail
                    go_roundw
                    case rel => exact ⟨q + 1, by omega, by go_num, by rw [HNU.out], HT9.out⟩
                    case measure => simp [intOf]; omega
                  have hy8 : y8 = 0 := by
                    refine SellE.same HE8.out (.inl ⟨HASK.out, by omega, by omega, ?_, rfl⟩)
                    rw [← HE7.out]
                    omega
                  subst hy8
                  have d3 : decide (0 < n7) = true := by simp; omega
                  by_cases hf : n7 < 10000
                  · have hy9 : y9 = 3 := by
                      refine SellE.same HE9.out (.inr (.inl ⟨HASK.out, by omega, by omega, ?_, rfl⟩))
                      rw [← HE7.out]
                      omega
                    subst hy9
                    have d4 : decide (n7 < 10000) = true := by simpa using hf
                    go_wp2_with fail
                    go_roundw
                    case rel => exact ⟨q + 1, by omega, by go_num, by rw [HNU.out], HT9.out⟩
                    case measure => simp [intOf]; omega
                  · have d4 : decide (n7 < 10000) = false := by simpa using hf
                    go_wp2_with fail
                    go_roundw
                    case rel => exact ⟨q + 1, by omega, by go_num, by rw [HNU.out], HT9.out⟩
                    case measure => simp [intOf]; omega
                · obtain rfl : q = l.length := by omega
                  go_wp2_with fail
                  go_roundw
                  case rel => exact ⟨k + 1, A5, cap5, t5, by omega, by omega, by go_num, rfl, HQ.out⟩
                  case measure => simp [intOf]; omega
            · have HT : Hid (Sold l w w5 S cS t) := Lib.hid (HSD.out.next F5)
              clear E5 F5 R5 c5 m5 q5
              have hT1 := HT.out.le
              have hT2 := HT.out.most
              go_wp2_with fail
              refine (right_any w5 A ca l S cS t (lim_at HL.out HT.out.frm) HT.out.rd).mono ?_
              rintro e w6 ⟨b6, n6, rfl, rfl, hb6⟩
              obtain rfl : b6 = true := hb6.2 HT.out.right
              have HT6 : Hid (Sold l w (w5.drewN n6) S cS t) := Lib.hid (HT.out.next ((Frm.refl (fun _ => False) w5).drewN n6))
              generalize w5.drewN n6 = w6 at HT6
              clear hb6
              go_wp2_with fail
              go_loopw [11, 12] (fun v11 v12 wq => ∃ q : Nat, q ≤ l.length ∧ v12 = .int .i64 (q : Int) ∧ v11 = .int .i64 (leastUp l t q) ∧ Sold l w wq S cS t) (fun _ v12 _ => (l.length - intOf v12).toNat)
              case atStart => exact ⟨0, by omega, rfl, rfl, HT6.out⟩
              case round =>
                obtain ⟨q, hq, rfl, rfl, hSq⟩ := hrel
                have HQ := Lib.hid hSq
                clear hSq HT6
                by_cases hql : q < l.length
                · have hql' : (q : Int) < l.length := by omega
                  have hq0 : (0 : Int) ≤ q := by omega
                  have HASK := Lib.hid (least_full HQ.out.right hql)
                  go_wp2_with fail
                  refine (left_any _ A ca l S cS t (q : Int) (lim_at HL.out HQ.out.frm) HQ.out.rd).mono ?_
                  rintro e w7 ⟨n7, y7, rfl, F7, hx7⟩
                  obtain ⟨rfl, he7⟩ := leftIs_ask hx7 HASK.out
                  have HT7 := Lib.hid (HQ.out.next F7)
                  have HE7 := Lib.hid he7
                  have hn0 : 0 ≤ n7 := by rw [he7]; exact least_pos HQ.out.right hql
                  have hn1 : n7 ≤ 10000 := by rw [he7]; exact least_le hql
                  have hnu : n7 = leastUp l t (q + 1) := by rw [he7]; exact least_up hql
                  have hmono : n7 ≤ leastUp l t q := by rw [hnu, leastUp]; omega
                  have HNU := Lib.hid hnu
                  clear F7 hx7 he7 hnu
                  generalize leastUp l t q = bf at hmono
                  go_wp2_with fail
                  refine (sell_any w7 A ca l S cS t (q : Int) n7 (lim_at HL.out HT7.out.frm) HT7.out.rd hT1 hT2).mono ?_
                  intro e w8 h8
                  obtain ⟨A8, cap8, t8, y8, rfl, E8, F8, R8, c8, m8, q8⟩ := sold_rd h8
                  have HT8 := Lib.hid (HT7.out.next F8)
                  have HE8 := Lib.hid E8
                  clear h8 E8 F8 R8 c8 m8 q8
                  go_wp2_with fail
                  refine (sell_any w8 A ca l S cS t (q : Int) (n7 + 1) (lim_at HL.out HT8.out.frm) HT8.out.rd hT1 hT2).mono ?_
                  intro e w9 h9
                  obtain ⟨A9, cap9, t9, y9, rfl, E9, F9, R9, c9, m9, q9⟩ := sold_rd h9
                  have HT9 := Lib.hid (HT8.out.next F9)
                  have HE9 := Lib.hid E9
                  clear h9 E9 F9 R9 c9 m9 q9
                  have d1 : decide (n7 < 0) = false := by simpa using hn0
                  have d2 : decide (bf < n7) = false := by simpa using hmono
                  by_cases hz : n7 = 0
                  · have hy9 : y9 = 3 := by
                      refine SellE.same HE9.out (.inr (.inl ⟨HASK.out, by omega, by omega, ?_, rfl⟩))
                      rw [← HE7.out]
                      omega
                    subst hz hy9
                    go_wp2_with fail
                    go_roundw
                    case rel => exact ⟨q + 1, by omega, by go_num, by rw [HNU.out], HT9.out⟩
                    case measure => simp [intOf]; omega
                  have hy8 : y8 = 0 := by
                    refine SellE.same HE8.out (.inl ⟨HASK.out, by omega, by omega, ?_, rfl⟩)
                    rw [← HE7.out]
                    omega
                  subst hy8
                  have d3 : decide (0 < n7) = true := by simp; omega
                  by_cases hf : n7 < 10000
                  · have hy9 : y9 = 3 := by
                      refine SellE.same HE9.out (.inr (.inl ⟨HASK.out, by omega, by omega, ?_, rfl⟩))
                      rw [← HE7.out]
                      omega
                    subst hy9
                    have d4 : decide (n7 < 10000) = true := by simpa using hf
                    go_wp2_with fail
                    go_roundw
                    case rel => exact ⟨q + 1, by omega, by go_num, by rw [HNU.out], HT9.out⟩
                    case measure => simp [intOf]; omega
                  · have d4 : decide (n7 < 10000) = false := by simpa using hf
                    go_wp2_with fail
                    go_roundw
                    case rel => exact ⟨q + 1, by omega, by go_num, by rw [HNU.out], HT9.out⟩
                    case measure => simp [intOf]; omega
                · obtain rfl : q = l.length := by omega
                  go_wp2_with fail
                  go_roundw
                  case rel => exact ⟨k + 1, S, cS, t, by omega, by omega, by go_num, rfl, HQ.out⟩
                  case measure => simp [intOf]; omega
          · have dy2 : decide (-20000 < y) = false := by simpa using hy2
            go_wp2_with fail
            go_roundw
            case rel => exact ⟨k + 1, S, cS, t, by omega, by omega, by go_num, rfl, HS.out⟩
            case measure => simp [intOf]; omega
      · go_wp2_with fail
        all_goals
          go_ret
          exact ⟨rfl, HS.out.frm.below⟩
end Go.Proofs.Ytgkkkibagbdlcaa

/- Sell and Back of the package and of the reference. -/
import Derived.Test.YtgkkkibagbdlcaaNest6
import Derived.Test.YtgkkkibagbdlcaaNestMath2
namespace Go.Proofs.Ytgkkkibagbdlcaa
open Go.RowKit NestM

theorem info_int : (Try.prog.info? 3).map (fun i => (i.zero, i.size, i.bytes)) = some (some (.int .i64 0), 1, 8) := by kernel_rfl
theorem iv_one (l : List Int) : ∀ u ∈ l.map iv, u.oneCell' = true := by
  intro u hu
  obtain ⟨_, _, rfl⟩ := List.mem_map.1 hu
  rfl
theorem nil_no (w : World) (a : Addr) (n c : Nat) : (binOp .eql 22 (.slice (some a) n c) (.slice none 0 0)).run Try.prog w = .ok (.bool false) w := by
  first | rfl | kernel_rfl | (simp [binOp, go_sem, Try.underlying22])
theorem clone_any (w : World) (B : Option Addr) (cb : Nat) (s : List Int) (hs : Rd w w.heap.size B (s.map iv)) (hl : s.length ≤ 8) (hp : 0 < s.length) (hc : s.length ≤ cb) (hm : cb ≤ maxLen) :
    Calls Try.prog 31 #[.slice B s.length cb] w fun e w' => ∃ v, e = .returned v ∧ Sl w' w.heap.size 3 1 v s.length (s.map iv) ∧ Fresh w w' := by
  unfold maxLen at hm
  obtain ⟨bB, oB, rfl, _⟩ := hs.at_ (k := 0) (by simpa using hp)
  obtain ⟨i0, hi, hz0, hz1, hz2⟩ := info_parts info_int
  have HS := Lib.hid hs
  clear hs
  have hnn := fun w n c => nil_no w ⟨bB, oB, none⟩ n c
  go_enter Try.func31, Try.ntmps31
  have S0 := Lib.hid (show Sl (w.alloc (.cells #[] 3)) w.heap.size 3 1 (.slice (some ⟨w.heap.size, 0, none⟩) 0 0) 0 [] from sl_new w _ [] _ (Nat.le_refl _) (by simp [maxLen]))
  have f0 : Fresh w (w.alloc (.cells #[] 3)) := (Frm.refl _ w).alloc _
  go_wp2_with (first
    | (at_builtin; refine wpList_append_sl _ rfl (.tmp 5) (.tmp 6) _ rfl w.heap.size 3 i0 _ 1 8 Try.underlying22 hi hz0 hz1 hz2 rfl (by omega) _ _ _ rfl S0.out _ _ _ _ _ rfl (by simp) (HS.out.alloc (Nat.le_refl _) _) (iv_one _) (by unfold maxLen; omega) (by omega) (by simp) ?_; intro v1 w2 hs1 hf1 ha1))
  have F2 : Fresh w w2 := f0.trans' hf1 (fun i hi hk => by have := own_at hk; omega)
  rw [Nat.zero_add, List.nil_append] at hs1
  go_wp2_with fail
  go_ret
  exact ⟨v1, rfl, hs1, F2⟩


theorem plus_map (s : List Int) (k : Nat) (m : Int) : (plus s k m).map iv = (s.map iv).set k (iv (at_ s k + m)) := by
  unfold plus
  rw [List.map_set]
set_option maxHeartbeats 800000 in
theorem more_any (w : World) (B : Option Addr) (cb : Nat) (s : List Int) (k : Nat) (m : Int) (hs : Rd w w.heap.size B (s.map iv)) (hl : s.length ≤ 8) (hk : k < s.length) (hc : s.length ≤ cb) (hm : cb ≤ maxLen)
    (hv : wi (at_ s k) = true) (hm1 : -10000 ≤ m) (hm2 : m ≤ 10000) :
    Calls Try.prog 27 #[.slice B s.length cb, .int .i64 (k : Int), .int .i64 m] w fun e w' => ∃ v, e = .returned v ∧ Sl w' w.heap.size 3 1 v s.length ((plus s k m).map iv) ∧ Fresh w w' := by
  have HS := Lib.hid hs
  clear hs
  go_enter Try.func27, Try.ntmps27
  go_wp2_with fail
  refine (clone_any w B cb s HS.out hl (by omega) hc hm).mono ?_
  rintro e w1 ⟨v, rfl, hsl, F1⟩
  obtain ⟨g, o, cap, rfl, hg, hgl, hcap, hmax⟩ := hsl.head (by omega)
  have hc1 : w1.cell? ⟨g, o + k, none⟩ = some (.int .i64 (at_ s k)) := by
    rw [hsl.cell (j := k) (by simpa using hk), List.getElem_map, at_get hk]; rfl
  have hf1 := hsl.frozen (o + k)
  have hv1 := (wi_true hv).1
  have hv2 := (wi_true hv).2
  have HSL := Lib.hid hsl
  clear hsl hv
  unfold maxLen at hmax hm
  have hk0 : (0 : Int) ≤ k := by omega
  have hk1 : (k : Int) < s.length := by omega
  go_wp2_with fail
  go_ret
  refine ⟨_, rfl, ?_, F1.trans' ((Frm.refl (fun i => i = g) w1).setCell (p := ⟨g, o + k, none⟩) (fun _ => rfl) _) (fun i hi h => by omega)⟩
  rw [plus_map]
  exact HSL.out.store (by simpa using hk) _

/-- what a sale answers -/
def SellE (l s : List Int) (c m y : Int) : Prop :=
  (Asked l s c ∧ 1 ≤ m ∧ m ≤ 10000 ∧ m ≤ least l s c 0 ∧ y = 0) ∨ (Asked l s c ∧ 1 ≤ m ∧ m ≤ 10000 ∧ least l s c 0 < m ∧ y = 3) ∨ (¬ (Asked l s c ∧ 1 ≤ m ∧ m ≤ 10000) ∧ y = 1)
theorem SellE.same {l s : List Int} {c m y y' : Int} (h : SellE l s c m y) (h' : SellE l s c m y') : y = y' := by
  rcases h with ⟨a1, a2, a3, a4, a5⟩ | ⟨a1, a2, a3, a4, a5⟩ | ⟨a1, a5⟩ <;> rcases h' with ⟨b1, b2, b3, b4, b5⟩ | ⟨b1, b2, b3, b4, b5⟩ | ⟨b1, b5⟩
  · omega
  · omega
  · exact absurd ⟨a1, a2, a3⟩ b1
  · omega
  · omega
  · exact absurd ⟨a1, a2, a3⟩ b1
  · exact absurd ⟨b1, b2, b3⟩ a1
  · exact absurd ⟨b1, b2, b3⟩ a1
  · omega
def BackE (l s : List Int) (c m y : Int) : Prop :=
  (Asked l s c ∧ 1 ≤ m ∧ m ≤ at_ s c.toNat ∧ y = 0) ∨ (¬ (Asked l s c ∧ 1 ≤ m ∧ m ≤ at_ s c.toNat) ∧ y = 1)
theorem BackE.same {l s : List Int} {c m y y' : Int} (h : BackE l s c m y) (h' : BackE l s c m y') : y = y' := by
  rcases h with ⟨a1, a2, a3, a4⟩ | ⟨a1, a5⟩ <;> rcases h' with ⟨b1, b2, b3, b4⟩ | ⟨b1, b5⟩
  · omega
  · exact absurd ⟨a1, a2, a3⟩ b1
  · exact absurd ⟨b1, b2, b3⟩ a1
  · omega
/-- the slice that comes back, and the error -/
def SoldPost (s : List Int) (E : Int → Prop) (c d : Int) (w : World) (e : Ending) (w' : World) : Prop :=
  ∃ v y, e = .returned (.tuple #[v, .int .i64 y]) ∧ E y ∧ Fresh w w' ∧ ((y = 0 ∧ Sl w' w.heap.size 3 1 v s.length ((plus s c.toNat d).map iv)) ∨ (y ≠ 0 ∧ v = .slice none 0 0))
theorem leftIs_yes {l s : List Int} {c x y : Int} (h : LeftIs l s c x y) (hy : y = 0) : Asked l s c ∧ x = least l s c 0 := by
  rcases h with ⟨h1, h2, h3, h4, _⟩ | ⟨_, _, h⟩
  · exact ⟨⟨h1, h2, h3⟩, h4⟩
  · omega
theorem leftIs_cases {l s : List Int} {c x y : Int} (h : LeftIs l s c x y) : (y = 0 ∧ Asked l s c ∧ x = least l s c 0) ∨ (y = 1 ∧ ¬ Asked l s c) := by
  rcases h with ⟨h1, h2, h3, h4, h5⟩ | ⟨h1, _, h⟩
  · exact .inl ⟨h5, ⟨h1, h2, h3⟩, h4⟩
  · exact .inr ⟨h, h1⟩
end Go.Proofs.Ytgkkkibagbdlcaa

/- A slice of bytes as a string, in the words of Mem and Open. No program is named here. -/
import Derived.Test.YtlceembcehokoaaOpen
import Derived.Laws.BytesArg
import Derived.Laws.BytesString
namespace Go.Proofs.Ytlceembcehokoaa
open Go.RowKit

def str (bs : List UInt8) : ByteArray := ⟨bs.toArray⟩
theorem str_toList (bs : List UInt8) : (str bs).toList = bs := ByteArray.toList_mk bs
theorem strOfNums_bytes (bs : List UInt8) : strOfNums (bs.map fun b => (b.toNat : Int)) = str bs := by
  unfold strOfNums str
  congr 1
  congr 1
  induction bs with
  | nil => rfl
  | cons b l ih =>
    rw [List.map_cons, List.map_cons, ih]
    congr 1
    simp
theorem conv_bytes {P : Program} {w : World} (src dst e : TypeId) (hs : P.underlying src = some (.slice e)) (he : P.underlying e = some (.int .u8)) (hd : P.underlying dst = some .string)
    {B : Nat} {A : Option Addr} {bs : List UInt8} (c : Nat) (h : Rd w B A (bs.map bv)) {n : Nat} (hn : n = bs.length) : (convert src dst (.slice A n c)).run P w = .ok (.string (str bs)) w := by
  subst hn
  by_cases hne : bs = []
  · subst hne
    rcases A with _ | a
    · exact run_convert_bytes_nil w src e hs he _ _ dst hd
    · show (convert src dst (.slice (some a) 0 c)).run P w = _
      rw [run_convert_bytes_string w src dst e _ _ c hs he hd, run_bytesToString w a 0 c [] (by have := run_loadCells_list (P := P) w a [] (fun j v hj => by simp at hj); simpa using this)]
      rfl
  · obtain ⟨b, o, rfl, hb, hc⟩ := h (by simpa using hne)
    have := run_convert_bytes_arg w src e hs he b o bs.length c (bs.map fun b => (b.toNat : Int)) (by simp) (fun i hi => by
      have e : (bs.map bv)[i]? = some (bv bs[i]) := by simp [hi]
      rw [hc i _ e]
      simp [bv, List.getD, hi]) dst hd
    rw [this, strOfNums_bytes]
end Go.Proofs.Ytlceembcehokoaa

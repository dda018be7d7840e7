/-
  PackTexts: a text's form is read again at its place.
-/
import Derived.Test.YtnobnokmecdkcaaShort
namespace Go.Proofs.Ytnobnokmecdkcaa
open Go.RowKit

/-- The form of a text is read at its place. -/
theorem readT_at {s : ByteArray} {pre rest : List UInt8} (t : ByteArray) (ht : t.size ≤ 140737488351232) (h : s.data.toList = pre ++ ((txt t).data.toList ++ rest)) :
    readT s (pre.length : Int) = (t, ((pre.length + (txt t).size : Nat) : Int), 0) := by
  obtain ⟨h1, h2, _⟩ := ub_form t.size (by omega)
  have hl : (txt t).data.toList = ub t.size ++ t.data.toList := by unfold txt; rw [ByteArray.data_append, Array.toList_append]
  have hz : (txt t).size = (ub t.size).length + t.size := by rw [size_list, hl, List.length_append, ← size_list]
  have hs : s.size = pre.length + ((ub t.size).length + t.size + rest.length) := by rw [size_list, h, hl]; simp only [List.length_append, ← size_list]
  have e := readU_at (s := s) (pre := pre) (l := ub t.size) (rest := t.data.toList ++ rest) (by rw [h, hl, List.append_assoc]) h1 (ub_len _) (by rw [h2]; omega)
  rw [h2] at e
  unfold readT
  rw [e]
  dsimp only
  rw [if_pos rfl, if_neg (by omega), Int.toNat_natCast, hz]
  have ex : s.extract (pre.length + (ub t.size).length) (pre.length + (ub t.size).length + t.size) = t := by
    apply ba_ext
    rw [extract_list, h, hl, show pre.length + (ub t.size).length + t.size - (pre.length + (ub t.size).length) = t.data.toList.length from by rw [← size_list]; omega]
    rw [← List.append_assoc, List.append_assoc, List.append_assoc, ← List.append_assoc, show pre.length + (ub t.size).length = (pre ++ ub t.size).length from by simp, List.drop_left, List.take_left]
  rw [ex, ← Int.natCast_add, Nat.add_assoc]

end Go.Proofs.Ytnobnokmecdkcaa

/-
  Plain: the forms are read again, and what is read has its form.
-/
import Derived.Test.YtnobnokmecdkcaaReadO
namespace Go.Proofs.Ytnobnokmecdkcaa
open Go.RowKit

theorem byte_split {s : ByteArray} {pre r : List UInt8} (h : s.data.toList = pre ++ r) (j : Nat) : byte s (pre.length + j) = (r.getD j 0).toNat := by
  unfold byte
  rw [h, List.getD_eq_getElem?_getD, List.getElem?_append_right (by omega), show pre.length + j - pre.length = j from by omega, ← List.getD_eq_getElem?_getD]
theorem size_list (s : ByteArray) : s.size = s.data.toList.length := Array.length_toList.symm

theorem val7_list (s : ByteArray) (l : List UInt8) (q : Nat) (h : ∀ j, j < l.length → byte s (q + j) = (l.getD j 0).toNat) : val7 s q l.length = valL l := by
  induction l generalizing q with
  | nil => rfl
  | cons b l ih =>
    rw [List.length_cons, val7_head]
    have h0 := h 0 (by simp)
    simp only [Nat.add_zero, List.getD_cons_zero] at h0
    rw [ih (q + 1) (fun j hj => by
      have := h (j + 1) (by simp; omega)
      rw [List.getD_cons_succ] at this
      rw [← this]; congr 1; omega), h0]
    rfl

theorem valL_last (h : List UInt8) (b : UInt8) : valL (h ++ [b]) = valL h + 128 ^ h.length * (b.toNat % 128) := by
  induction h with
  | nil => simp [valL]
  | cons x h ih =>
    simp only [List.cons_append, valL, List.length_cons, ih, Nat.pow_succ]
    rw [Nat.mul_add, Nat.mul_comm (128 ^ h.length) 128, Nat.mul_assoc]
    omega

theorem getD_app_left (a b : List UInt8) (j : Nat) (h : j < a.length) : (a ++ b).getD j 0 = a.getD j 0 := by
  rw [List.getD_eq_getElem?_getD, List.getD_eq_getElem?_getD, List.getElem?_append_left h]

theorem getD_mem (a : List UInt8) (j : Nat) (h : j < a.length) : a.getD j 0 ∈ a := by
  rw [List.getD_eq_getElem?_getD, List.getElem?_eq_getElem h]
  exact List.getElem_mem h

/-- The form of a number is read. -/
theorem readU_at {s : ByteArray} {pre l rest : List UInt8} (h : s.data.toList = pre ++ (l ++ rest)) (hf : Form l) (hl : l.length ≤ 10) (hv : valL l < 18446744073709551616) :
    readU s (pre.length : Int) = (valL l, ((pre.length + l.length : Nat) : Int), 0) := by
  obtain ⟨hd, b, rfl, h1, h2, h3⟩ := hf
  have hB : ∀ j, j < (hd ++ [b]).length → byte s (pre.length + j) = ((hd ++ [b]).getD j 0).toNat := fun j hj => by
    rw [byte_split h, getD_app_left _ _ _ hj]
  have hlen : (hd ++ [b]).length = hd.length + 1 := by simp
  rw [hlen] at hl
  have hs : pre.length + hd.length < s.size := by rw [size_list, h]; simp
  have hb : byte s (pre.length + hd.length) = b.toNat := by
    rw [hB _ (by omega)]
    simp [List.getD_eq_getElem?_getD]
  have hst : stop s pre.length 9 = pre.length + hd.length := by
    refine stop_is s _ 9 _ (by omega) (by omega) (by omega) (fun j a c => ?_) (.inr (.inr (by omega)))
    obtain ⟨i, rfl⟩ : ∃ i, j = pre.length + i := ⟨j - pre.length, by omega⟩
    rw [hB i (by omega), getD_app_left _ _ _ (by omega)]
    exact h1 _ (getD_mem _ _ (by omega))
  have hval := val7_list s (hd ++ [b]) pre.length hB
  rw [hlen] at hval
  rw [readU_in s pre.length (by omega) _ hst, if_neg (by omega), if_neg ?_, if_neg ?_]
  · rw [show pre.length + hd.length + 1 - pre.length = hd.length + 1 from by omega, hval, hlen]
    rfl
  · rintro ⟨h4, h5⟩
    rw [hb] at h5
    exact h3 (by intro e; subst e; simp at h4) h5
  · rintro ⟨h4, h5⟩
    have h9 : hd.length = 9 := by omega
    rw [valL_last, h9, Nat.mod_eq_of_lt h2] at hv
    rw [hb] at h5
    have e9 : (128 : Nat) ^ 9 = 9223372036854775808 := by decide +kernel
    rw [e9] at hv
    omega

/-- The form of a number, cut ahead of its end, is told as short. -/
theorem readU_cut {s : ByteArray} {pre l : List UInt8} {c : Nat} (h : s.data.toList = pre ++ l.take c) (hf : Form l) (hl : l.length ≤ 10) (hc : c < l.length) :
    readU s (pre.length : Int) = (0, 0, 20) := by
  have hsz : s.size = pre.length + c := by rw [size_list, h]; simp; omega
  by_cases h0 : c = 0
  · unfold readU
    rw [if_pos (by omega)]
  · obtain ⟨hd, b, rfl, h1, h2, h3⟩ := hf
    have hlen : (hd ++ [b]).length = hd.length + 1 := by simp
    have hst : stop s pre.length 9 = s.size := by
      refine stop_is s _ 9 _ (by omega) (by omega) (by omega) (fun j a d => ?_) (.inr (.inl rfl))
      obtain ⟨i, rfl⟩ : ∃ i, j = pre.length + i := ⟨j - pre.length, by omega⟩
      rw [byte_split h]
      have e : ((hd ++ [b]).take c).getD i 0 = hd.getD i 0 := by
        rw [List.getD_eq_getElem?_getD, List.getElem?_take_of_lt (by omega), ← List.getD_eq_getElem?_getD, getD_app_left _ _ _ (by omega)]
      rw [e]
      exact h1 _ (getD_mem _ _ (by omega))
    rw [readU_in s pre.length (by omega) _ hst, if_pos rfl]

theorem extract_list (s : ByteArray) (a b : Nat) : (s.extract a b).data.toList = (s.data.toList.drop a).take (b - a) := by
  simp [ByteArray.data_extract]

theorem ba_ext {a b : ByteArray} (h : a.data.toList = b.data.toList) : a = b := by
  cases a; cases b; congr; exact Array.ext' h

/-- What is read has its one form. -/
theorem readU_one {s : ByteArray} {p : Int} (h : (readU s p).2.2 = 0) : ∃ q n v : Nat, p = q ∧ q < n ∧ n ≤ s.size ∧ v < 18446744073709551616 ∧ readU s p = (v, (n : Int), 0) ∧ s.extract q n = ⟨(ub v).toArray⟩ := by
  obtain ⟨q, k, rfl, hk, hqs, hst, hb, h9, h0, HE⟩ := readU_ok h
  refine ⟨q, q + k + 1, val7 s q (k + 1), rfl, by omega, by omega, val7_u64 s q k hk h9, HE, ?_⟩
  have hall := stop_high s q 9
  have hsl := size_list s
  have hl : ((s.data.toList.drop q).take (k + 1)).length = k + 1 := by simp; omega
  have hB : ∀ j, j < k + 1 → byte s (q + j) = (((s.data.toList.drop q).take (k + 1)).getD j 0).toNat := fun j hj => by
    unfold byte
    rw [List.getD_eq_getElem?_getD, List.getD_eq_getElem?_getD, List.getElem?_take_of_lt hj, List.getElem?_drop]
  have hv := val7_list s ((s.data.toList.drop q).take (k + 1)) q (fun j hj => hB j (by omega))
  rw [hl] at hv
  have hF : Form ((s.data.toList.drop q).take (k + 1)) := by
    have e : (s.data.toList.drop q).take (k + 1) = (s.data.toList.drop q).take k ++ [s.data.toList[q + k]] := by
      rw [← List.take_append_getElem (by simp; omega)]
      simp
    refine ⟨_, _, e, ?_, ?_, ?_⟩
    · intro x hx
      obtain ⟨i, hi, rfl⟩ := List.getElem_of_mem hx
      have hi' : i < k := by simp at hi; omega
      have := hall (q + i) (by omega) (by omega)
      unfold byte at this
      rw [List.getD_eq_getElem?_getD, List.getElem?_eq_getElem (by omega)] at this
      simpa using this
    · unfold byte at hb
      rw [List.getD_eq_getElem?_getD, List.getElem?_eq_getElem (by omega)] at hb
      simpa using hb
    · intro hne
      have hk0 : 0 < k := by
        rcases Nat.eq_zero_or_pos k with e | e
        · subst e; exact absurd rfl hne
        · exact e
      have := h0 hk0
      unfold byte at this
      rw [List.getD_eq_getElem?_getD, List.getElem?_eq_getElem (by omega)] at this
      simpa using this
  apply ba_ext
  rw [extract_list, show q + k + 1 - q = k + 1 from by omega]
  show _ = (ub (val7 s q (k + 1))).toArray.toList
  rw [hv]
  show _ = (leb 10 (valL _)).toArray.toList
  rw [form_leb _ hF 10 (by omega)]

end Go.Proofs.Ytnobnokmecdkcaa

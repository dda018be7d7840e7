/-
  Definitions of flows: the graph of the steps; a table of n times n.
-/
import Derived.Test.YtemhoaapapeilaaFd12
namespace Go.Proofs.Ytemhoaapapeilaa
open Go.RowKit
set_option linter.unusedVariables false

/-- The steps' numbers for which each waits. -/
def grf (l : List Stp) : List (List Nat) := l.map fun s => s.after.map fun a => l.findIdx (isNm a)
theorem grf_len (l : List Stp) : (grf l).length = l.length := by simp [grf]
theorem bytes_eq_of {a b : ByteArray} (h : (a.toList == b.toList) = true) : a = b := by
  have h1 := bytes_beq a b
  rw [beq_toListBytes, h] at h1
  exact of_decide_eq_true h1.symm
theorem isNm_iff (a : ByteArray) (s : Stp) : isNm a s = true ↔ s.name = a := by
  constructor
  · exact bytes_eq_of
  · intro h; unfold isNm; rw [h]; simp
theorem grf_adj {l : List Stp} {i : Nat} {s : Stp} (h : l[i]? = some s) : adj (grf l) i = s.after.map fun a => l.findIdx (isNm a) := by
  unfold adj grf
  rw [List.getD_eq_getElem?_getD, List.getElem?_map, h]
  rfl
theorem NamesOk.idx {l : List Stp} (h : NamesOk l) {a : ByteArray} (ha : a ∈ l.map Stp.name) : ∃ s, l[l.findIdx (isNm a)]? = some s ∧ s.name = a ∧ l.findIdx (isNm a) < l.length := by
  obtain ⟨s, hs, e⟩ := List.mem_map.1 ha
  have hlt : l.findIdx (isNm a) < l.length := List.findIdx_lt_length_of_exists ⟨s, hs, (isNm_iff a s).2 e⟩
  refine ⟨l[l.findIdx (isNm a)], List.getElem?_eq_getElem hlt, ?_, hlt⟩
  exact (isNm_iff a _).1 (List.findIdx_getElem (w := hlt))
theorem grf_shut {l : List Stp} (h : NamesOk l) : Shut (grf l) := by
  intro i k hk
  rw [grf_len]
  by_cases hi : i < l.length
  · rw [grf_adj (List.getElem?_eq_getElem hi)] at hk
    obtain ⟨a, ha, e⟩ := List.mem_map.1 hk
    obtain ⟨_, _, _, hlt⟩ := h.idx (h.2 _ (List.getElem_mem hi) a ha)
    rw [← e]
    exact hlt
  · rw [adj_out (by rw [grf_len]; omega)] at hk
    cases hk
/-- The number by the name: the program's map and the first that bears the name are one. -/
theorem mkN_idx {l : List Stp} (h : NamesOk l) {a : ByteArray} (ha : a ∈ l.map Stp.name) : mget (mkN (l.map Stp.name) l.length) a = some ((l.findIdx (isNm a) : Nat) : Int) := by
  have hm := mkN_ok (l.map Stp.name) l.length (by simp)
  have htk : (l.map Stp.name).take l.length = l.map Stp.name := List.take_of_length_le (by simp)
  have hs : (mget (mkN (l.map Stp.name) l.length) a).isSome = true := by rw [mget_isSome, hm.key, htk]; exact ha
  obtain ⟨i, hi⟩ := Option.isSome_iff_exists.1 hs
  obtain ⟨j, hj, hja, e⟩ := hm.get a i hi
  obtain ⟨s, h1, h2, h3⟩ := h.idx ha
  have hjn : (l.map Stp.name)[l.findIdx (isNm a)]? = some a := by rw [List.getElem?_map, h1]; simp [h2]
  have : j = l.findIdx (isNm a) := (List.getElem?_inj (by simpa using hj) h.1).1 (by rw [hja, hjn])
  rw [hi, e, this]

/-- The table as cells. -/
def tabC (n : Nat) (T : Nat → Nat → Bool) : Array Value := (Array.range (n * n)).map fun x : Nat => Value.bool (T (x / n) (x % n))
theorem tabC_size (n : Nat) (T : Nat → Nat → Bool) : (tabC n T).size = n * n := by simp [tabC]
theorem tab_lt {n i k : Nat} (hi : i < n) (hk : k < n) : i * n + k < n * n := by
  have : (i + 1) * n ≤ n * n := Nat.mul_le_mul_right n hi
  rw [Nat.add_mul] at this
  omega
theorem tab_div {n i k : Nat} (hk : k < n) : (i * n + k) / n = i ∧ (i * n + k) % n = k := by
  have hn : 0 < n := by omega
  constructor
  · rw [Nat.add_comm, Nat.add_mul_div_right _ _ hn, Nat.div_eq_of_lt hk]; omega
  · rw [Nat.add_comm, Nat.add_mul_mod_self_right, Nat.mod_eq_of_lt hk]
theorem tabC_at {n i k : Nat} (T : Nat → Nat → Bool) (hi : i < n) (hk : k < n) : (tabC n T)[i * n + k]? = some (.bool (T i k)) := by
  unfold tabC
  rw [Array.getElem?_map, Array.getElem?_range, if_pos (tab_lt hi hk)]
  simp only [Option.map_some, (tab_div hk).1, (tab_div hk).2]
theorem tabC_set {n i k : Nat} (T : Nat → Nat → Bool) (hi : i < n) (hk : k < n) : (tabC n T).setIfInBounds (i * n + k) (.bool true) = tabC n (putT T i k) := by
  apply Array.ext
  · simp [tabC]
  · intro x h1 h2
    have hx : x < n * n := by rw [tabC_size] at h2; exact h2
    have hn : 0 < n := by omega
    rw [Array.getElem_setIfInBounds (by rw [tabC_size]; exact hx)]
    · split
      · rename_i e
        subst e
        simp [tabC, putT, (tab_div hk).1, (tab_div hk).2]
      · rename_i e
        have hne : ¬ (x / n = i ∧ x % n = k) := fun hh => e (by rw [← hh.1, ← hh.2, Nat.mul_comm]; exact Nat.div_add_mod x n)
        simp [tabC, putT, hne]

end Go.Proofs.Ytemhoaapapeilaa

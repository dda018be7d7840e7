/-
  The orders' book beside the document's two lists. No program.
-/
import Derived.Test.YtdgoifnhlpjnpaaRf19
namespace Go.Proofs.Ytdgoifnhlpjnpaa
set_option linter.unusedVariables false

def toBare (q : Int × Od) : Od := { bare q.2 with i := q.1 }
/-- The maps of the book, and the document's lists. -/
structure RelO (pr : List (Int × Int)) (os : List (Int × Od)) (is : List (Int × Int)) (rs : List Od) : Prop where
  its : RelK Prod.fst ltI (fun q : Int × Int => q) pr is
  ods : RelK Od.i ltI toBare os (rs.map bare)
section
variable {pr : List (Int × Int)} {os : List (Int × Od)} {is : List (Int × Int)} {rs : List Od}
theorem RelO.nil : RelO [] [] [] [] := ⟨RelK.nil (fun _ => rfl), RelK.nil (fun _ => rfl)⟩
theorem RelO.sortI (h : RelO pr os is rs) : SortedK Prod.fst ltI is := h.its.sorted
theorem RelO.sortO (h : RelO pr os is rs) : SortedK Od.i ltI rs := by
  have := h.ods.sorted
  unfold SortedK at this ⊢
  rw [List.pairwise_map] at this
  exact this
theorem RelO.price (h : RelO pr os is rs) (id : Int) :
    (∃ (k : Nat) (y : Int), k < is.length ∧ is[k]? = some (id, y) ∧ mget pr id = some y ∧ plc (isI id) is = k) ∨ (mget pr id = none ∧ (∀ y ∈ is, isI id y = false) ∧ plc (isI id) is = -1) := by
  rcases plc_cases (isI id) is with ⟨k, y, hk, hy, hp, he⟩ | ⟨hn, he⟩
  · have e : y.1 = id := by simpa [isI] using hp
    obtain ⟨v, h1, h2⟩ := h.its.mem (List.mem_of_getElem? hy)
    rw [e] at h1 h2
    exact .inl ⟨k, v, hk, by rw [hy, h2], h1, he⟩
  · refine .inr ⟨h.its.none.1 (fun hin => ?_), hn, he⟩
    obtain ⟨y, hy, e⟩ := List.mem_map.1 hin
    have := hn y hy
    simp [isI] at this
    exact this e
theorem RelO.find (h : RelO pr os is rs) (id : Int) :
    (∃ (k : Nat) (o o' : Od), k < rs.length ∧ rs[k]? = some o ∧ o.i = id ∧ mget os id = some o' ∧ bare o = { bare o' with i := id } ∧ plc (isD id) rs = k) ∨ (mget os id = none ∧ (∀ y ∈ rs, y.i ≠ id) ∧ plc (isD id) rs = -1) := by
  rcases plc_cases (isD id) rs with ⟨k, y, hk, hy, hp, he⟩ | ⟨hn, he⟩
  · have e : y.i = id := by simpa [isD] using hp
    obtain ⟨v, h1, h2⟩ := h.ods.mem (List.mem_map_of_mem (f := bare) (List.mem_of_getElem? hy))
    rw [show (bare y).i = id from e] at h1 h2
    exact .inl ⟨k, y, v, hk, hy, e, h1, h2, he⟩
  · have hn' : ∀ y ∈ rs, y.i ≠ id := fun y hy e => by
      have := hn y hy
      simp [isD] at this
      exact this e
    refine .inr ⟨h.ods.none.1 (fun hin => ?_), hn', he⟩
    rw [List.map_map] at hin
    obtain ⟨y, hy, e⟩ := List.mem_map.1 hin
    exact hn' y hy e
/-- The price list with this one. -/
theorem RelO.setI (h : RelO pr os is rs) (id l : Int) (isC' : List (Int × Int)) (hc : isC' = if 0 ≤ plc (isI id) is then is.set (plc (isI id) is).toNat (id, l) else insK Prod.fst ltI is (id, l)) : RelO (mset pr id l) os isC' rs := by
  refine ⟨?_, h.ods⟩
  rw [hc]
  rcases h.price id with ⟨k, y, hk, hy, hm, he⟩ | ⟨hm, hn, he⟩
  · rw [he, if_pos (by omega)]
    have := h.its.upd l hm
    rw [updK_set (e := (id, l)) linI h.its.sorted hy rfl] at this
    exact this
  · rw [he, if_neg (by omega)]
    exact h.its.ins linI l hm
/-- One order more. -/
theorem map_insK {r : List Od} {o : Od} : (insK Od.i ltI r o).map bare = insK Od.i ltI (r.map bare) (bare o) := by
  have hp : ∀ p, posK Od.i ltI (r.map bare) p = posK Od.i ltI r p := fun p => by
    unfold posK
    rw [List.takeWhile_map, List.length_map]
    rfl
  unfold insK
  rw [show (bare o).i = o.i from rfl, hp, List.map_append, List.map_cons, List.map_take, List.map_drop]
theorem RelO.addO (h : RelO pr os is rs) {id : Int} {o o' : Od} (hm : mget os id = none) (hi : o.i = id) (hb : bare o = bare o') : RelO pr (mset os id o') is (insK Od.i ltI rs o) := by
  refine ⟨h.its, ?_⟩
  have := h.ods.ins linI o' hm
  rw [map_insK]
  have e : toBare (id, o') = bare o := by
    unfold toBare
    rw [← hb, ← hi]
    rfl
  rw [e] at this
  exact this
end

end Go.Proofs.Ytdgoifnhlpjnpaa

/-
  The library's sort at structs, told of a row that the call owns.
-/
import Derived.Test.YthdmbbfppgenlaaGreatRange
import Derived.Shelf.GgSortFunc.InsertionK
import Derived.Sort.LotA
namespace Go.Proofs.YthdmbbfppgenlaaGreat
open Go.RowKit
set_option linter.unusedVariables false

section
variable {α : Type} [Inhabited α] {enc : α → List Value} {k : Nat}

theorem flatK_list (hk : ∀ x, (enc x).length = k) (d : Array α) : (Sort.flatK enc k d).toList = d.toList.flatMap enc := by
  apply List.ext_getElem?
  intro t
  have hlen : (d.toList.flatMap enc).length = d.size * k := by rw [length_flatMap_const enc k hk]; simp
  by_cases ht : t < d.size * k
  · have k0 : 0 < k := by rcases Nat.eq_zero_or_pos k with h | h; · subst h; simp at ht
                          · exact h
    have hq : t / k < d.size := Nat.div_lt_of_lt_mul (by rw [Nat.mul_comm]; exact ht)
    have hr : t % k < k := Nat.mod_lt _ k0
    have e1 := getElem?_flatMap enc k hk d.toList (t / k) d[t / k] (by simp [hq]) (t % k) hr
    rw [Nat.mul_comm, Nat.div_add_mod] at e1
    rw [e1]
    have e2 := Sort.get_flatK enc k d t ht
    have hsz : t < (Sort.flatK enc k d).size := by simpa using ht
    rw [Array.getElem?_toList, Array.getElem?_eq_getElem hsz, ← getElem!_pos (Sort.flatK enc k d) t hsz, e2, getElem!_pos d (t / k) hq]
    rw [List.getElem?_eq_getElem (by rw [hk]; exact hr)]
    congr 1
    exact getElem!_pos (enc d[t / k]) (t % k) (by rw [hk]; exact hr)
  · rw [List.getElem?_eq_none (by simpa using ht), List.getElem?_eq_none (by rw [hlen]; omega)]

/-- What the library's contract says of the sort at this element type. -/
def SortsAt (P : Program) (f : Nat) (fv : Value) (enc : α → List Value) (k : Nat) (lt : α → α → Bool) : Prop :=
  (∀ (blk off cap : Nat) (d : Array α) (w : World), Sort.HoldsK enc k w blk off d → blk < w.heap.size → d.size < 4611686018427387904 →
    Calls P f #[.slice (some ⟨blk, off, none⟩) d.size cap, fv] w fun e w' => e = .returned (.tuple #[]) ∧ ∃ d' n os, Sort.PermIn 0 d.size d d' ∧ Sort.SortedIn lt 0 d.size d' ∧ w' = sortWorldK enc k w blk off n d' os) ∧
  ∀ (p : Option Addr) (cap : Nat) (w : World), Calls P f #[.slice p 0 cap, fv] w fun e w' => e = .returned (.tuple #[]) ∧ w' = w

theorem sort_owned {P : Program} {f : Nat} {fv : Value} {lt : α → α → Bool} (hS : SortsAt P f fv enc k lt) (hk : ∀ x, (enc x).length = k) {w : World} {base : Nat} {e : TypeId} {v : Value} {l : List α}
    (ho : w.ownsRow base e k v l.length (l.flatMap enc)) (hl : l.length < 4611686018427387904) :
    Calls P f #[v, fv] w fun r w' => r = .returned (.tuple #[]) ∧ ∃ l' : List α, l'.Perm l ∧ l'.Pairwise (fun a b => lt b a = false) ∧ w'.ownsRow base e k v l'.length (l'.flatMap enc) ∧ w.grownBy w' v.ownBlock := by
  rcases ho.2 with ⟨rfl, h0⟩ | ⟨g, cap, cur, rfl, hb, hg, hnc, hcm, hcs, htk⟩
  · refine (hS.2 none 0 w).mono ?_
    rintro r w' ⟨rfl, rfl⟩
    have : l = [] := List.eq_nil_of_length_eq_zero h0
    subst this
    exact ⟨rfl, [], List.Perm.refl _, List.Pairwise.nil, ho, ⟨rfl, rfl, rfl, Nat.le_refl _, fun _ _ _ => rfl⟩⟩
  · have hlt : g < w.heap.size := (Array.getElem?_eq_some_iff.1 hg).1
    have hH : Sort.HoldsK enc k w g 0 l.toArray := by
      intro j hj
      have hj' : j < l.length * k := by simpa using hj
      rw [Nat.zero_add]
      refine ⟨?_, frozen_of_row w g j cur e hg⟩
      rw [cell_of_row w g j cur e (0, 0) hg]
      have e1 : (l.flatMap enc)[j]? = cur[j]? := by rw [← htk, List.getElem?_take, if_pos hj', Array.getElem?_toList]
      rw [← e1]
      have e2 := flatK_list hk l.toArray
      rw [← e2, Array.getElem?_toList, Array.getElem?_eq_getElem hj, ← getElem!_pos (Sort.flatK enc k l.toArray) j hj]
      rfl
    have hc := hS.1 g 0 cap l.toArray w hH hlt (by simpa using hl)
    rw [show l.toArray.size = l.length from by simp] at hc
    refine hc.mono ?_
    rintro r w' ⟨rfl, d', n, os, ⟨hp1, hp2, hp3⟩, hs, rfl⟩
    have hsz : d'.size = l.length := hp1.trans (by simp)
    have hperm : d'.toList.Perm l := by
      have h1 : (d'.extract 0 l.length).toList = d'.toList := by simp [← hsz]
      have h2 : (l.toArray.extract 0 l.length).toList = l := by simp
      rw [h1, h2] at hp3
      exact hp3
    have hll : d'.toList.length = l.length := by simpa using hsz
    have hgw : (sortWorldK enc k w g 0 n d' os).heap[g]? = some (.cells (Sort.putCells id 0 (Sort.flatK enc k d') cur) e (0, 0)) := by
      unfold sortWorldK
      rw [Sort.heap_grow_old _ _ (by simpa [Sort.putRowK] using hlt)]
      simp [Sort.putRowK, Sort.putRow, Sort.mapBlock, Sort.ahead, Array.getElem?_modify, hg, Sort.onCells]
    refine ⟨rfl, d'.toList, hperm, ?_, ⟨by rw [length_flatMap_const enc k hk], .inr ⟨g, cap, _, by rw [hll], hb, hgw, by omega, hcm, by simp [Sort.putCells, hcs], ?_⟩⟩, ?_⟩
    · rw [List.pairwise_iff_getElem]
      intro i j hi hj hij
      have h := hs i j (Nat.zero_le _) hij (by rw [← hll]; exact hj)
      rw [getElem!_pos d' i (by simpa using hi), getElem!_pos d' j (by simpa using hj)] at h
      simpa using h
    · rw [← flatK_list hk d', show d'.toList.length = d'.size from by simp]
      apply List.ext_getElem?
      intro j
      by_cases hj : j < d'.size * k
      · have hjs : j < cur.size := by
          have : d'.size * k ≤ cap * k := Nat.mul_le_mul_right _ (by omega)
          omega
        have hjf : j < (Sort.flatK enc k d').size := by simpa using hj
        rw [List.getElem?_take_of_lt hj, Array.getElem?_toList, Array.getElem?_toList, Array.getElem?_eq_getElem hjf, ← getElem!_pos (Sort.flatK enc k d') j hjf]
        simp [Sort.putCells, hj, hjs]
      · rw [List.getElem?_take_eq_none (by omega), List.getElem?_eq_none (by simpa using hj)]
    · refine ⟨rfl, rfl, rfl, by simp [sortWorldK, Sort.grow, Sort.putRowK, Sort.putRow, Sort.mapBlock, Sort.ahead], fun i hi hne => ?_⟩
      unfold sortWorldK
      rw [Sort.heap_grow_old _ _ (by simpa [Sort.putRowK] using hi)]
      have : g ≠ i := fun e => hne (by rw [Value.ownBlock, e])
      simp [Sort.putRowK, Sort.putRow, Sort.mapBlock, Sort.ahead, Array.getElem?_modify, this]
end

end Go.Proofs.YthdmbbfppgenlaaGreat

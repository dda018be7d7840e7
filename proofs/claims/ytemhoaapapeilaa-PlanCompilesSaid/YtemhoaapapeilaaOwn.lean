/-
  Rows that the call owns, told as slices; what is left of a range. No program, no condition.
-/
import Derived.Test.YtemhoaapapeilaaRange
import Derived.Test.YtemhoaapapeilaaPush
namespace Go.Proofs.Ytemhoaapapeilaa
open Go.RowKit Go.MapKept Go.ChangeMaps Go.WideShapes Go.ChangeShapes Go.ChangeAt Go.Deep
set_option linter.unusedVariables false

theorem IsIter.left_len {κ ν : Type} {w : World} {r B : Nat} {kE : κ → Value} {vE : ν → Value} {m left : List (κ × ν)} (h : IsIter w r B kE vE m left) : w.rangeLeft B r = left.length := by
  obtain ⟨es, clock, since, c0, seen, hb, hr, _, _, _, _, _, hit, rfl⟩ := h
  have hl : es.length = m.length := by have := congrArg List.length hr; simpa using this
  simp only [World.rangeLeft, hb, hit, leftOf]
  unfold toCome
  rw [List.length_map]
  have e1 := zip_fst (m := m) hl
  have e2 : (Array.filter (fun e => !seen.contains e.born) es.toArray).size = (es.filter fun e => !seen.contains e.born).length := by simp
  rw [e2]
  conv => lhs; rw [← e1, List.filter_map, List.length_map]
  rfl

theorem own_slice {w : World} {base : Nat} {e : TypeId} {size : Nat} {v : Value} {n : Nat} {xs : List Value} (h : w.ownsRow base e size v n xs) : ∃ A cap, v = .slice A n cap ∧ Rd w A xs := by
  have h0 := h
  obtain ⟨hl, h1 | ⟨g, cap, cur, rfl, _, hh, hn, _⟩⟩ := h
  · obtain ⟨rfl, rfl⟩ := h1
    exact ⟨none, 0, rfl, .inl (List.eq_nil_of_length_eq_zero (by simpa using hl))⟩
  · refine ⟨_, cap, rfl, ?_⟩
    rcases xs with _ | ⟨x, xs⟩
    · exact .inl rfl
    · right
      refine ⟨g, 0, rfl, (Array.getElem?_eq_some_iff.1 hh).1, fun j u hu => ?_⟩
      have := h0.cells (g := g) rfl j u hu
      rw [add_plain] at this
      exact this


theorem own_rd {w : World} {base n cap m : Nat} {e : TypeId} {size : Nat} {A : Option Addr} {xs : List Value} (h : w.ownsRow base e size (.slice A n cap) m xs) : Rd w A xs := by
  obtain ⟨A1, c1, e, hr⟩ := own_slice h
  injection e with e1 _ _
  rw [e1]; exact hr

/-- An own row's blocks. -/
theorem own_blk {w : World} {base n cap m : Nat} {e : TypeId} {size : Nat} {A : Option Addr} {xs : List Value} (h : w.ownsRow base e size (.slice A n cap) m xs) : ∀ b, A.map (·.block) = some b → base ≤ b ∧ b < w.heap.size := fun b hb => by
  refine h.lt b ?_
  cases A with
  | none => simp at hb
  | some a => simpa [Value.ownBlock] using hb
/-- What a function leaves that hands back a slice in a new row. -/
def NewRowOf {α : Type} (enc : α → List Value) (t : TypeId) (s : Nat) (r : List α) (w : World) (e : Ending) (w' : World) : Prop := ∃ A cap, e = .returned (.slice A r.length cap) ∧ w'.ownsRow w.heap.size t s (.slice A r.length cap) r.length (r.flatMap enc) ∧ Below w.heap.size w w'
theorem Rd.take {α : Type} {enc : α → List Value} {w : World} {A : Option Addr} {l : List α} (h : Rd w A (l.flatMap enc)) (k : Nat) : Rd w A ((l.take k).flatMap enc) := by
  rcases h with h0 | ⟨b, off, hA, hlt, hc⟩
  · left
    have : l.flatMap enc = (l.take k).flatMap enc ++ (l.drop k).flatMap enc := by rw [← List.flatMap_append, List.take_append_drop]
    rw [this] at h0
    exact (List.append_eq_nil_iff.1 h0).1
  · right
    refine ⟨b, off, hA, hlt, fun j u hu => hc j u ?_⟩
    have e1 : l.flatMap enc = (l.take k).flatMap enc ++ (l.drop k).flatMap enc := by rw [← List.flatMap_append, List.take_append_drop]
    rw [e1, List.getElem?_append_left (List.getElem?_eq_some_iff.1 hu).1]
    exact hu

theorem own_touch {S : Nat → Prop} {w w' : World} {base : Nat} {e : TypeId} {size : Nat} {v : Value} {n : Nat} {xs : List Value} (h : w.ownsRow base e size v n xs) (ht : Touch S w w') (hS : ∀ g, v.ownBlock = some g → ¬ S g) : w'.ownsRow base e size v n xs := by
  obtain ⟨hl, h1 | ⟨g, cap, cur, rfl, hb, hh, hr⟩⟩ := h
  · exact ⟨hl, .inl h1⟩
  · exact ⟨hl, .inr ⟨g, cap, cur, rfl, hb, (ht.block g (Array.getElem?_eq_some_iff.1 hh).1 (hS g rfl)).trans hh, hr⟩⟩
theorem own_notBlk {w : World} {base : Nat} {e t : TypeId} {size n : Nat} {v : Value} {xs : List Value} {g : Nat} {cs : Array Value} (h : w.ownsRow base e size v n xs) (hb : Blk w g t cs) (hne : e ≠ t) : v.ownBlock ≠ some g := by
  intro he
  rcases h.2 with ⟨rfl, _⟩ | ⟨g', cap, cur, rfl, _, hh, _⟩
  · simp [Value.ownBlock] at he
  · have hg : g' = g := by simpa [Value.ownBlock] using he
    subst hg
    unfold Blk at hb
    rw [hb] at hh
    injection hh with hh
    injection hh with _ h2
    exact hne h2.symm
theorem Rd.old {w : World} {A : Option Addr} {xs : List Value} (h : Rd w A xs) (hne : xs ≠ []) : ∀ b, A.map (·.block) = some b → b < w.heap.size := by
  rcases h with h | ⟨b, off, rfl, hlt, _⟩
  · exact absurd h hne
  · intro b' hb'
    simp at hb'
    omega

end Go.Proofs.Ytemhoaapapeilaa

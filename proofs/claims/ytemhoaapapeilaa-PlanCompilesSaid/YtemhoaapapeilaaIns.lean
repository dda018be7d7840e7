/-
  A row with one more at its end, swapped down to its place: the facts of the loop. No program.
-/
import Derived.Test.YtemhoaapapeilaaOwn
import Derived.Test.YtemhoaapapeilaaSortedK
import Derived.Test.YtemhoaapapeilaaIn
namespace Go.Proofs.Ytemhoaapapeilaa
open Go.RowKit Go.WideShapes Go.ChangeShapes Go.ChangeAt Go.Deep
set_option linter.unusedVariables false

section
variable {α κ : Type} {key : α → κ} {lt : κ → κ → Bool} {r : List α} {z y : α} {k : Nat}

/-- The list with z standing ahead of place k. -/
def midK (r : List α) (z : α) (k : Nat) : List α := r.take k ++ z :: r.drop k
theorem midK_len (hkl : k ≤ r.length) : (midK r z k).length = r.length + 1 := by unfold midK; simp; omega
theorem midK_here (hkl : k ≤ r.length) : (midK r z k)[k]? = some z := by
  unfold midK
  have hl : (r.take k).length = k := by simp; omega
  rw [List.getElem?_append_right (by omega), hl, Nat.sub_self]; rfl
theorem midK_at (hk : 0 < k) (hkl : k ≤ r.length) : (midK r z k)[k - 1]? = r[k - 1]? := by
  unfold midK
  rw [List.getElem?_append_left (by simp; omega), List.getElem?_take_of_lt (by omega)]
theorem midK_end : midK r z r.length = r ++ [z] := by unfold midK; simp
theorem midK_step (hk : 0 < k) (hkl : k ≤ r.length) (hy : r[k - 1]? = some y) : ((midK r z k).set k y).set (k - 1) z = midK r z (k - 1) := by
  unfold midK
  have hk1 : k - 1 < r.length := by omega
  have hl : (r.take k).length = k := by simp; omega
  have e2 : r.take k = r.take (k - 1) ++ [y] := by
    have := List.take_succ_eq_append_getElem (l := r) (i := k - 1) hk1
    rw [show k - 1 + 1 = k from by omega, (List.getElem?_eq_some_iff.1 hy).2] at this
    exact this
  have e3 : r.drop (k - 1) = y :: r.drop k := by
    rw [List.drop_eq_getElem_cons hk1, (List.getElem?_eq_some_iff.1 hy).2, show k - 1 + 1 = k from by omega]
  have hl1 : (r.take (k - 1)).length = k - 1 := by simp; omega
  rw [List.set_append_right _ _ (by omega), hl, Nat.sub_self, List.set_cons_zero, e2, e3, List.append_assoc, List.set_append_right _ _ (by omega), hl1, Nat.sub_self]
  rfl
/-- What stands behind place k has greater keys. -/
def Behind (key : α → κ) (lt : κ → κ → Bool) (r : List α) (z : α) (k : Nat) : Prop := ∀ j y, k ≤ j → r[j]? = some y → lt (key z) (key y) = true
theorem behind_end : Behind key lt r z r.length := fun j y hj hy => by rw [List.getElem?_eq_none hj] at hy; cases hy
theorem behind_step (h : Behind key lt r z k) (hk : 0 < k) (hy : r[k - 1]? = some y) (hlt : lt (key z) (key y) = true) : Behind key lt r z (k - 1) := fun j x hj hx => by
  by_cases e : j = k - 1
  · subst e; rw [hy] at hx; injection hx with hx; subst hx; exact hlt
  · exact h j x (by omega) hx
theorem midK_done (L : LinK lt) (hs : SortedK key lt r) (hn : key z ∉ r.map key) (hkl : k ≤ r.length) (h : Behind key lt r z k) (hf : ∀ y, 0 < k → r[k - 1]? = some y → lt (key z) (key y) = false) : midK r z k = insK key lt r z := by
  have hp : posK key lt r (key z) = k := by
    refine posK_eq hkl (fun j x hj hx => ?_) (fun x hx => ?_)
    · have hk1 : k - 1 < r.length := by omega
      have hy : r[k - 1]? = some r[k - 1] := List.getElem?_eq_getElem hk1
      have h1 := hf _ (by omega) hy
      have hne : ∀ x ∈ r, key x ≠ key z := fun x hx e => hn (by rw [← e]; exact List.mem_map_of_mem hx)
      have h2 : lt (key r[k - 1]) (key z) = true := by
        cases hc : lt (key r[k - 1]) (key z) with
        | true => rfl
        | false => exact absurd (L.total _ _ hc h1) (hne _ (List.getElem_mem hk1))
      by_cases e : j = k - 1
      · subst e; rw [hy] at hx; injection hx with hx; subst hx; exact h2
      · have hjl := (List.getElem?_eq_some_iff.1 hx).1
        have := (List.pairwise_iff_getElem.1 hs) j (k - 1) hjl hk1 (by omega)
        rw [(List.getElem?_eq_some_iff.1 hx).2] at this
        exact L.trans _ _ _ this h2
    · have h1 := h k x (Nat.le_refl _) hx
      cases hc : lt (key x) (key z) with
      | false => rfl
      | true => have := L.trans _ _ _ h1 hc; rw [L.irrefl] at this; cases this
  unfold insK midK
  rw [hp]

/-- The row, as the loop holds it. -/
structure InsRow (enc : α → List Value) (s : Nat) (t : TypeId) (base g cap : Nat) (w4 : World) (l : List α) (w : World) : Prop where
  own : w.ownsRow base t s (.slice (some ⟨g, 0, none⟩) l.length cap) l.length (l.flatMap enc)
  touch : Touch (· = g) w4 w
variable {enc : α → List Value} {s : Nat} {t : TypeId} {base g cap : Nat} {w4 w : World} {l : List α}
theorem InsRow.next {w' : World} (h : InsRow enc s t base g cap w4 l w) (hb : Below w.heap.size w w') : InsRow enc s t base g cap w4 l w' :=
  ⟨h.own.kept (grown_of_below hb none) (by cases hv : (Value.slice (some ⟨g, 0, none⟩) l.length cap).ownBlock <;> simp), h.touch.then (.of_below hb)⟩
theorem InsRow.drew (h : InsRow enc s t base g cap w4 l w) : InsRow enc s t base g cap w4 l w.drew := h.next (below_drewN (Below.refl _ _) 1)
theorem InsRow.alloc (h : InsRow enc s t base g cap w4 l w) (o : Obj) : InsRow enc s t base g cap w4 l (w.alloc o) := h.next ((Below.refl _ _).alloc (Nat.le_refl _) o)
theorem InsRow.elem (hs : ∀ x, (enc x).length = s) (h : InsRow enc s t base g cap w4 l w) {k : Nat} {y : α} (hk : l[k]? = some y) : CellsAt w g (k * s) (enc y) := by
  have hkl := (List.getElem?_eq_some_iff.1 hk).1
  obtain ⟨g', cap', e, hb, hlt⟩ := own_form h.own (by omega)
  injection e with e1 e2 e3
  injection e1 with e1
  injection e1 with e1
  subst e1
  exact ⟨hlt, fun j u hu => own_cells hs h.own hk hu⟩
theorem InsRow.free (h : InsRow enc s t base g cap w4 l w) (i : Nat) : w.frozen? ⟨g, i, none⟩ = false := own_free h.own i
theorem InsRow.put (hs : ∀ x, (enc x).length = s) (h : InsRow enc s t base g cap w4 l w) {k : Nat} (hk : k < l.length) (x : α) : InsRow enc s t base g cap w4 (l.set k x) (storeMany w g (k * s) (enc x)) := by
  obtain ⟨h1, h2⟩ := own_set hs h.own hk x
  exact ⟨h1, h.touch.then (Touch.of_grown h2)⟩
theorem InsRow.field (hs : ∀ x, (enc x).length = s) (h : InsRow enc s t base g cap w4 l w) {k j : Nat} {x x' : α} {v : Value} (hk : l[k]? = some x) (hj : j < s) (hx : enc x' = (enc x).set j v) : InsRow enc s t base g cap w4 (l.set k x') (w.setCell ⟨g, k * s + j, none⟩ v) := by
  obtain ⟨h1, h2⟩ := own_field hs h.own hk hj v x' hx
  exact ⟨h1, h.touch.then (Touch.of_grown h2)⟩
end

/-- A row's own block is of its type. -/
theorem own_other {w : World} {base base' n n' : Nat} {e e' : TypeId} {size size' : Nat} {v v' : Value} {xs xs' : List Value} (h : w.ownsRow base e size v n xs) (h' : w.ownsRow base' e' size' v' n' xs') (hne : e ≠ e') {g : Nat} (hg : v'.ownBlock = some g) : v.ownBlock ≠ some g := by
  intro he
  rcases h.2 with ⟨rfl, _⟩ | ⟨g1, cap, cur, rfl, _, hh, _⟩
  · simp [Value.ownBlock] at he
  · rcases h'.2 with ⟨rfl, _⟩ | ⟨g2, cap2, cur2, rfl, _, hh2, _⟩
    · simp [Value.ownBlock] at hg
    · have e1 : g1 = g := by simpa [Value.ownBlock] using he
      have e2 : g2 = g := by simpa [Value.ownBlock] using hg
      subst e1 e2
      rw [hh] at hh2
      injection hh2 with hh2
      injection hh2 with _ h2
      exact hne h2

end Go.Proofs.Ytemhoaapapeilaa

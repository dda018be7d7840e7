/-
  Stores into an owned row of structs: one element set, cell by cell.
-/
import Derived.Test.YtemhoaapapeilaaSortedK
import Derived.Laws.OwnMore
namespace Go.Proofs.Ytemhoaapapeilaa
open Go.RowKit Go.ChangeShapes Go.WideShapes Go.ChangeAt Go.Deep
set_option linter.unusedVariables false

/-- Cells stored one behind the other. -/
def setMany (xs : List Value) (o : Nat) : List Value → List Value
  | [] => xs
  | c :: cs => setMany (xs.set o c) (o + 1) cs
def storeMany (w : World) (g o : Nat) : List Value → World
  | [] => w
  | c :: cs => storeMany (w.setCell ⟨g, o, none⟩ c) g (o + 1) cs

theorem setMany_append_right (a b : List Value) (o : Nat) (cs : List Value) (h : a.length ≤ o) : setMany (a ++ b) o cs = a ++ setMany b (o - a.length) cs := by
  induction cs generalizing b o with
  | nil => rfl
  | cons c cs ih =>
    simp only [setMany]
    rw [List.set_append_right _ _ h, ih _ _ (by omega), show o + 1 - a.length = o - a.length + 1 from by omega]
theorem setMany_front (xs : List Value) : ∀ (ys rest done : List Value), xs.length = ys.length → setMany (done ++ (xs ++ rest)) done.length ys = done ++ (ys ++ rest) := by
  intro ys
  induction ys generalizing xs with
  | nil => intro rest done h; cases xs with
    | nil => rfl
    | cons x xs => simp at h
  | cons y ys ih =>
    intro rest done h
    cases xs with
    | nil => simp at h
    | cons x xs =>
      simp only [setMany]
      rw [List.set_append_right _ _ (Nat.le_refl _), Nat.sub_self, List.cons_append, List.set_cons_zero]
      have := ih xs rest (done ++ [y]) (by simpa using h)
      simp only [List.length_append, List.length_cons, List.length_nil, List.append_assoc, List.cons_append, List.nil_append] at this
      exact this
theorem setMany_flat {α : Type} (enc : α → List Value) (s : Nat) (hs : ∀ x, (enc x).length = s) (l : List α) (k : Nat) (x : α) (hk : k < l.length) : setMany (l.flatMap enc) (k * s) (enc x) = (l.set k x).flatMap enc := by
  induction l generalizing k with
  | nil => simp at hk
  | cons y l ih =>
    cases k with
    | zero =>
      simp only [List.flatMap_cons, Nat.zero_mul, List.set_cons_zero]
      exact setMany_front (enc y) (enc x) (l.flatMap enc) [] (by rw [hs, hs])
    | succ k =>
      simp only [List.flatMap_cons, List.set_cons_succ]
      rw [setMany_append_right _ _ _ _ (by rw [hs, Nat.succ_mul]; omega), hs, show (k + 1) * s - s = k * s from by rw [Nat.succ_mul]; omega, ih k (by simpa using hk)]
theorem set_flat {α : Type} (enc : α → List Value) (s : Nat) (hs : ∀ x, (enc x).length = s) (l : List α) (k j : Nat) (x : α) (v : Value) (hk : l[k]? = some x) (hj : j < s) (x' : α) (hx : enc x' = (enc x).set j v) : (l.flatMap enc).set (k * s + j) v = (l.set k x').flatMap enc := by
  induction l generalizing k with
  | nil => simp at hk
  | cons y l ih =>
    cases k with
    | zero =>
      simp only [List.getElem?_cons_zero, Option.some.injEq] at hk
      subst hk
      simp only [List.flatMap_cons, Nat.zero_mul, Nat.zero_add, List.set_cons_zero, hx]
      rw [List.set_append_left _ _ (by rw [hs]; exact hj)]
    | succ k =>
      simp only [List.getElem?_cons_succ] at hk
      simp only [List.flatMap_cons, List.set_cons_succ]
      rw [List.set_append_right _ _ (by rw [hs, Nat.succ_mul]; omega), hs, show (k + 1) * s + j - s = k * s + j from by rw [Nat.succ_mul]; omega, ih k hk]

theorem grown_refl (w : World) (r : Option Nat) : w.grownBy w r := ⟨rfl, rfl, rfl, Nat.le_refl _, fun _ _ _ => rfl⟩

theorem own_storeMany {w : World} {base : Nat} {e : TypeId} {size n cap g : Nat} {xs : List Value} (h : w.ownsRow base e size (.slice (some ⟨g, 0, none⟩) n cap) n xs) (o : Nat) (cs : List Value) :
    (storeMany w g o cs).ownsRow base e size (.slice (some ⟨g, 0, none⟩) n cap) n (setMany xs o cs) ∧ w.grownBy (storeMany w g o cs) (some g) := by
  induction cs generalizing w xs o with
  | nil => exact ⟨h, grown_refl _ _⟩
  | cons c cs ih =>
    obtain ⟨h1, h2⟩ := h.stored o c
    obtain ⟨h3, h4⟩ := ih h1 (o + 1)
    exact ⟨h3, grown_trans h2 h4⟩

/-- One element of an owned row of structs set whole. -/
theorem own_set {α : Type} {enc : α → List Value} {w : World} {base : Nat} {e : TypeId} {s cap g : Nat} {l : List α} (hs : ∀ x, (enc x).length = s) (h : w.ownsRow base e s (.slice (some ⟨g, 0, none⟩) l.length cap) l.length (l.flatMap enc)) {k : Nat} (hk : k < l.length) (x : α) :
    (storeMany w g (k * s) (enc x)).ownsRow base e s (.slice (some ⟨g, 0, none⟩) (l.set k x).length cap) (l.set k x).length ((l.set k x).flatMap enc) ∧ w.grownBy (storeMany w g (k * s) (enc x)) (some g) := by
  obtain ⟨h1, h2⟩ := own_storeMany h (k * s) (enc x)
  rw [setMany_flat enc s hs l k x hk] at h1
  rw [List.length_set]
  exact ⟨h1, h2⟩
/-- One field of one element. -/
theorem own_field {α : Type} {enc : α → List Value} {w : World} {base : Nat} {e : TypeId} {s cap g : Nat} {l : List α} (hs : ∀ x, (enc x).length = s) (h : w.ownsRow base e s (.slice (some ⟨g, 0, none⟩) l.length cap) l.length (l.flatMap enc)) {k j : Nat} {x : α} (hk : l[k]? = some x) (hj : j < s) (v : Value) (x' : α) (hx : enc x' = (enc x).set j v) :
    (w.setCell ⟨g, k * s + j, none⟩ v).ownsRow base e s (.slice (some ⟨g, 0, none⟩) (l.set k x').length cap) (l.set k x').length ((l.set k x').flatMap enc) ∧ w.grownBy (w.setCell ⟨g, k * s + j, none⟩ v) (some g) := by
  obtain ⟨h1, h2⟩ := h.stored (k * s + j) v
  rw [set_flat enc s hs l k j x v hk hj x' hx] at h1
  rw [List.length_set]
  exact ⟨h1, h2⟩

/-- What an owned row that is not empty looks like. -/
theorem own_form {α : Type} {enc : α → List Value} {w : World} {base : Nat} {e : TypeId} {s : Nat} {v : Value} {l : List α} (h : w.ownsRow base e s v l.length (l.flatMap enc)) (hl : 0 < l.length) :
    ∃ g cap, v = .slice (some ⟨g, 0, none⟩) l.length cap ∧ base ≤ g ∧ g < w.heap.size := by
  rcases h.2 with ⟨_, h0⟩ | ⟨g, cap, cur, rfl, hb, hg, _⟩
  · omega
  · exact ⟨g, cap, rfl, hb, (Array.getElem?_eq_some_iff.1 hg).1⟩
theorem own_cells {α : Type} {enc : α → List Value} {w : World} {base : Nat} {e : TypeId} {s n cap g : Nat} {l : List α} (hs : ∀ x, (enc x).length = s) (h : w.ownsRow base e s (.slice (some ⟨g, 0, none⟩) n cap) l.length (l.flatMap enc)) {k : Nat} {x : α} (hk : l[k]? = some x) {j : Nat} {u : Value} (hu : (enc x)[j]? = some u) :
    w.cell? ⟨g, k * s + j, none⟩ = some u := by
  have := h.cells (g := g) rfl (k * s + j) u (by rw [getElem?_flatMap enc s hs l k x hk j (by rw [← hs x]; exact (List.getElem?_eq_some_iff.1 hu).1)]; exact hu)
  rw [add_plain, Nat.zero_add] at this
  exact this
theorem own_free {w : World} {base : Nat} {e : TypeId} {s n cap g m : Nat} {xs : List Value} (h : w.ownsRow base e s (.slice (some ⟨g, 0, none⟩) n cap) m xs) (i : Nat) : w.frozen? ⟨g, i, none⟩ = false := by
  rcases h.2 with ⟨h', _⟩ | ⟨g', cap', cur, h', hb, hg, _⟩
  · simp at h'
  · simp only [Value.slice.injEq, Option.some.injEq, Addr.mk.injEq, and_true] at h'
    obtain ⟨rfl, _⟩ := h'
    simp [World.frozen?, hg]

end Go.Proofs.Ytemhoaapapeilaa

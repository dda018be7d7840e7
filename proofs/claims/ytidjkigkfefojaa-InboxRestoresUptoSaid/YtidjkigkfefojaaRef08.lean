/-
  The document's inbox: a list of entries in order; what its functions do.
-/
import Derived.Test.YtidjkigkfefojaaRest08
import Derived.Test.YtidjkigkfefojaaSetRow
import Derived.Test.YtidjkigkfefojaaIn
namespace Go.Proofs.Ytidjkigkfefojaa
open Go.RowKit Go.WideShapes Go.ChangeShapes Go.ChangeAt Go.Deep
set_option linter.unusedVariables false

/-! ### Plain -/
def ltP (p q : Int × Int) : Bool := decide (p.1 < q.1 ∨ (p.1 = q.1 ∧ p.2 < q.2))
theorem linP : LinK ltP where
  irrefl a := by simp [ltP]
  trans a b c h g := by simp only [ltP, decide_eq_true_eq] at *; omega
  total a b h g := by
    obtain ⟨a1, a2⟩ := a
    obtain ⟨b1, b2⟩ := b
    simp only [ltP, decide_eq_false_iff_not] at *
    have h1 : a1 = b1 := by omega
    have h2 : a2 = b2 := by omega
    rw [h1, h2]
theorem ltE_ltP (x y : Ent) : ltE x y = ltP (keyE x) (keyE y) := by
  rw [Bool.eq_iff_iff, ltE_iff]
  unfold ltP keyE
  rw [decide_eq_true_eq]

/-- What the list holds of a step. -/
def hasK (r : List Ent) (p : Int × Int) : Bool := match r[posK keyE ltP r p]? with | some y => decide (y.o = p.1) && decide (y.s = p.2) | none => false
def entR (r : List Ent) (p : Int × Int) : Ent := if hasK r p = true then r.getD (posK keyE ltP r p) noEnt else noEnt
theorem hasK_true {r : List Ent} {p : Int × Int} (h : hasK r p = true) : ∃ y, r[posK keyE ltP r p]? = some y ∧ keyE y = p ∧ entR r p = y := by
  have h0 := h
  unfold hasK at h
  cases hy : r[posK keyE ltP r p]? with
  | none => rw [hy] at h; cases h
  | some y =>
    rw [hy] at h
    simp only [Bool.and_eq_true, decide_eq_true_eq] at h
    refine ⟨y, rfl, by unfold keyE; rw [h.1, h.2], ?_⟩
    unfold entR
    rw [if_pos h0, List.getD_eq_getElem?_getD, hy]
    rfl

/-- The list behind a Keep. -/
def keepL (r : List Ent) (o s t : Int) (u : Bool) (c : Int) : List Ent :=
  if (askF (entR r (o, s)) t u).1 = 0 then
    (if hasK r (o, s) = true then r.set (posK keyE ltP r (o, s)) (keepE (entR r (o, s)) o s t u c)
     else r.take (posK keyE ltP r (o, s)) ++ keepE noEnt o s t u c :: r.drop (posK keyE ltP r (o, s)))
  else r
def keepRr (r : List Ent) (o s t : Int) (u : Bool) : Int := if (askF (entR r (o, s)) t u).1 = 0 then 0 else 130

/-! ### The words -/
theorem info_ent2 : (Try.prog.info? 70).map (fun i => (i.zero, i.size, i.bytes)) = some (some (enE noEnt), 5, 40) := by kernel_rfl

/-- The document's inbox at block R: its list in a row of the call's own. -/
structure IsRef (base : Nat) (w : World) (R : Nat) (A : Option Addr) (cap : Nat) (r : List Ent) : Prop where
  blk : Blk w R 43 #[.slice A r.length cap]
  own : w.ownsRow base 70 5 (.slice A r.length cap) r.length (r.flatMap enE5)
  lt : R < base

theorem rd_of_own {w : World} {base : Nat} {e : TypeId} {size : Nat} {v : Value} {n : Nat} {xs : List Value} (h : w.ownsRow base e size v n xs) : ∃ A cap, v = .slice A n cap ∧ Rd w A xs := by
  have h0 := h
  obtain ⟨hl, h1 | ⟨g, cap, cur, rfl, _, hh, hn, _⟩⟩ := h
  · obtain ⟨rfl, rfl⟩ := h1
    exact ⟨none, 0, rfl, .inl (List.eq_nil_of_length_eq_zero (by simpa using hl))⟩
  · refine ⟨_, cap, rfl, ?_⟩
    rcases xs with _ | ⟨x, xs⟩
    · exact .inl rfl
    · right
      refine ⟨g, 0, rfl, (Array.getElem?_eq_some_iff.1 hh).1, fun j u hu => ?_⟩
      have := h0.cells (g := g) rfl j u hu
      rw [add_plain] at this
      exact this

section
variable {base R cap : Nat} {A : Option Addr} {r : List Ent} {w w' : World}
theorem IsRef.next (h : IsRef base w R A cap r) (hb : Below w.heap.size w w') : IsRef base w' R A cap r :=
  ⟨h.blk.next hb, h.own.kept (grown_of_below hb none) (by cases hv : (Value.slice A r.length cap).ownBlock <;> simp), h.lt⟩
theorem IsRef.rd (h : IsRef base w R A cap r) : Rd w A (r.flatMap enE5) := by
  obtain ⟨A', cap', e, h2⟩ := rd_of_own h.own
  injection e with e1 e2 e3
  rw [e1]; exact h2
end

end Go.Proofs.Ytidjkigkfefojaa

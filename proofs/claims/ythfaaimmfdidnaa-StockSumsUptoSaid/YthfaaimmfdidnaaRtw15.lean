/-
  Two stock books side by side: the one that Restore makes, and the sums. No walk.
-/
import Derived.Test.YthfaaimmfdidnaaPl15
namespace Go.Proofs.Ythfaaimmfdidnaa
open Go.RowKit Go.ChangeAt
set_option linter.unusedVariables false

/-- The book at work (X), and the sums (Y), which lie above n1. -/
structure R2 (w0 : World) (n1 X BL BG : Nat) (lv : List (Int × Lv)) (gs : List (Int × Gd)) (Y YL YG : Nat) (sm : List (Int × Lv)) (w : World) : Prop where
  b1 : IsBook w0.heap.size w X BL BG lv gs
  b2 : IsBook n1 w Y YL YG sm []
  old : X < n1 ∧ BL < n1 ∧ BG < n1 ∧ ∀ p ∈ lv, p.2.g < n1
  lo : w0.heap.size ≤ n1
  bel : Below w0.heap.size w0 w
section
variable {w0 w w' : World} {n1 X BL BG Y YL YG : Nat} {lv sm : List (Int × Lv)} {gs : List (Int × Gd)}
theorem R2.next (h : R2 w0 n1 X BL BG lv gs Y YL YG sm w) (hb : Below w.heap.size w w') : R2 w0 n1 X BL BG lv gs Y YL YG sm w' :=
  ⟨h.b1.next hb, h.b2.next hb, h.old, h.lo, bthen h.bel hb⟩
theorem R2.made (h : IsBook w0.heap.size w X BL BG lv gs) (hb0 : Below w0.heap.size w0 w) (h2 : IsBook w.heap.size w' Y YL YG sm []) (hb : Below w.heap.size w w') : R2 w0 w.heap.size X BL BG lv gs Y YL YG sm w' :=
  ⟨h.next hb, h2, ⟨h.blk.lt, h.lvs.lt, h.gds.lt, fun p hp => (h.lc p hp).lt⟩, hb0.size, bthen hb0 hb⟩
/-- What is the sums' is not the book's. -/
theorem R2.apart (h : R2 w0 n1 X BL BG lv gs Y YL YG sm w) : ¬ Own YL YG sm [] X ∧ (∀ k, Own BL BG lv gs k → ¬ Own YL YG sm [] k) ∧ ∀ p ∈ gs, ¬ Own YL YG sm [] p.2.b := by
  have big : ∀ k, Own YL YG sm [] k → n1 ≤ k := fun k hk => h.b2.own_low hk
  have ty : ∀ {g : Nat} {t : TypeId} {cs : Array Value}, Blk w g t cs → (t == 38) = false → ¬ Own YL YG sm [] g := fun hB ht hk => by
    rcases hk with e | e | ⟨p, hp, e⟩ | ⟨p, hp, _⟩
    · exact h.b2.lvs.notBlk hB e.symm
    · exact h.b2.gds.notBlk hB e.symm
    · exact hB.ne_ (h.b2.lc p hp) (by intro e2; rw [e2] at ht; simp at ht) e.symm
    · cases hp
  refine ⟨fun hk => ?_, fun k hk hs => ?_, fun p hp => ?_⟩
  · have := big _ hk; have := h.old.1; omega
  · have hb := big _ hs
    rcases hk with rfl | rfl | ⟨p, hp, rfl⟩ | ⟨p, hp, rfl⟩
    · have := h.old.2.1; omega
    · have := h.old.2.2.1; omega
    · have := h.old.2.2.2 p hp; omega
    · exact ty (h.b1.gc p hp) (by decide) hs
  · obtain ⟨_, _, cs, h3⟩ := h.b1.lns p hp
    exact ty h3 (by decide)
/-- The sums written. -/
theorem R2.sums {sm' : List (Int × Lv)} (h : R2 w0 n1 X BL BG lv gs Y YL YG sm w) (hb : IsBook n1 w' Y YL YG sm' []) (ht : Touch (Own YL YG sm []) w w') : R2 w0 n1 X BL BG lv gs Y YL YG sm' w' := by
  obtain ⟨h1, h2, h3⟩ := h.apart
  exact ⟨h.b1.touch ht h1 h2 h3, hb, h.old, h.lo, h.bel.trans (ht.below h.bel.size (fun k hk => Nat.le_trans h.lo (h.b2.own_low hk)))⟩
/-- A level of the sums written. -/
theorem R2.put2 {a a' : Lv} {id : Int} (h : R2 w0 n1 X BL BG lv gs Y YL YG sm w) (ha : mget sm id = some a) (hg : a'.g = a.g) (ht : Touch (· = a.g) w w') (hB : Blk w' a.g 38 (enV a')) : R2 w0 n1 X BL BG lv gs Y YL YG (mset sm id a') w' :=
  h.sums (h.b2.putL ha hg ht hB) (ht.mono fun k hk => by subst hk; exact .inr (.inr (.inl ⟨_, mget_mem ha, rfl⟩)))
/-- The book written, where it is old. -/
theorem R2.first {S : Nat → Prop} {lv' : List (Int × Lv)} {gs' : List (Int × Gd)} (h : R2 w0 n1 X BL BG lv gs Y YL YG sm w) (hb : IsBook w0.heap.size w' X BL BG lv' gs') (ht : Touch S w w') (hS : ∀ k, S k → k < n1 ∧ w0.heap.size ≤ k) (hold : ∀ p ∈ lv', p.2.g < n1) : R2 w0 n1 X BL BG lv' gs' Y YL YG sm w' :=
  ⟨hb, h.b2.touch ht (fun hk => by have := (hS _ hk).1; have := h.b2.low.1; omega) (fun k hk hs => by have := (hS _ hs).1; have := h.b2.own_low hk; omega) (fun p hp => by cases hp), ⟨h.old.1, h.old.2.1, h.old.2.2.1, hold⟩, h.lo, h.bel.trans (ht.below h.bel.size (fun k hk => (hS k hk).2))⟩
theorem R2.put1 {a a' : Lv} {id : Int} (h : R2 w0 n1 X BL BG lv gs Y YL YG sm w) (ha : mget lv id = some a) (hg : a'.g = a.g) (ht : Touch (· = a.g) w w') (hB : Blk w' a.g 38 (enV a')) : R2 w0 n1 X BL BG (mset lv id a') gs Y YL YG sm w' :=
  h.first (h.b1.putL ha hg ht hB) ht (fun k hk => by subst hk; exact ⟨h.old.2.2.2 _ (mget_mem ha), h.b1.low.2.2.2.1 _ (mget_mem ha)⟩) (fun p hp => by
    rcases mem_mset hp with rfl | ⟨hp', _⟩
    · show a'.g < n1
      rw [hg]; exact h.old.2.2.2 _ (mget_mem ha)
    · exact h.old.2.2.2 p hp')
theorem R2.more1 {d : Gd} {o : Int} (h : R2 w0 n1 X BL BG lv gs Y YL YG sm w) (hb : IsBook w0.heap.size w' X BL BG lv (mset gs o d)) (hgr : w.grownBy w' (some BG)) : R2 w0 n1 X BL BG lv (mset gs o d) Y YL YG sm w' :=
  h.first hb (Touch.of_grown hgr) (fun k hk => by subst hk; exact ⟨h.old.2.2.1, h.b1.low.2.2.1⟩) h.old.2.2.2
end

end Go.Proofs.Ythfaaimmfdidnaa

/-
  What stands behind each step, gathered: plainly; and what lies where meanwhile.
-/
import Derived.Test.YtemhoaapapeilaaOn12
namespace Go.Proofs.Ytemhoaapapeilaa
open Go.RowKit Go.WideShapes Go.ChangeShapes Go.ChangeAt Go.Deep
set_option linter.unusedVariables false

instance : Inhabited IRow := ⟨⟨none, 0, []⟩⟩
/-- What row i adds to the list of number k, as far as it has come. -/
def hitsR (k i : Nat) (xs : List Int) : List Int := (xs.filter fun x => x == (k : Int)).map fun _ => (i : Int)
/-- .. the first i rows. -/
def hitsB (Bs : List IRow) (k : Nat) : Nat → List Int
  | 0 => []
  | i + 1 => hitsB Bs k i ++ hitsR k i ((Bs[i]?).map IRow.xs |>.getD [])
theorem hitsR_snoc_eq (k i : Nat) (xs : List Int) : hitsR k i (xs ++ [(k : Int)]) = hitsR k i xs ++ [(i : Int)] := by
  unfold hitsR
  rw [List.filter_append, List.map_append]
  simp
theorem hitsR_snoc_ne {k q i : Nat} (h : k ≠ q) (xs : List Int) : hitsR k i (xs ++ [(q : Int)]) = hitsR k i xs := by
  unfold hitsR
  rw [List.filter_append, List.map_append]
  have : ¬ (q : Int) = (k : Int) := by omega
  simp [this]
theorem hitsR_len (k i : Nat) (xs : List Int) : (hitsR k i xs).length ≤ xs.length := by
  unfold hitsR
  rw [List.length_map]
  exact List.length_filter_le _ _
theorem hitsR_rise {k i : Nat} {xs : List Int} (h : xs.Pairwise (· < ·)) : (hitsR k i xs).length ≤ 1 := by
  unfold hitsR
  rw [List.length_map]
  induction xs with
  | nil => simp
  | cons x xs ih =>
    have h2 := List.pairwise_cons.1 h
    by_cases e : x = (k : Int)
    · subst e
      have : xs.filter (fun x => x == (k : Int)) = [] := List.filter_eq_nil_iff.2 (fun y hy => by have := h2.1 y hy; simp; omega)
      rw [List.filter_cons_of_pos (by simp), this]
      simp
    · rw [List.filter_cons_of_neg (by simpa using e)]
      exact ih h2.2
/-- While what stands behind each step is gathered. -/
structure GaS (w0 : World) (P H n : Nat) (cs : Array Value) (f : Nat → IRow) (w : World) : Prop where
  p : Blk w P 75 cs
  h : Blk w H 36 (rngC n fun k => .slice (f k).A (f k).xs.length (f k).cap)
  r : ∀ k, k < n → OwnR w0.heap.size w (f k)
  d : ∀ k k' q, k < n → k' < n → k ≠ k' → (Value.slice (f k).A (f k).xs.length (f k).cap).ownBlock = some q → (Value.slice (f k').A (f k').xs.length (f k').cap).ownBlock ≠ some q
  t : Touch (· = P) w0 w
  lo : w0.heap.size ≤ H
  lp : P < w0.heap.size
section
variable {w0 w w' : World} {P H n : Nat} {cs : Array Value} {f : Nat → IRow}
theorem GaS.next (h : GaS w0 P H n cs f w) (hb : Below w.heap.size w w') : GaS w0 P H n cs f w' :=
  ⟨h.p.next hb, h.h.next hb, fun k hk => own_next (h.r k hk) hb, h.d, h.t.then (Touch.of_below hb), h.lo, h.lp⟩
theorem GaS.put (h : GaS w0 P H n cs f w) {k : Nat} (hk : k < n) (hT : Touch (fun b => (Value.slice (f k).A (f k).xs.length (f k).cap).ownBlock = some b) w w') {g cap : Nat} {x : Int} (ho : w'.ownsRow w0.heap.size 3 1 (.slice (some ⟨g, 0, none⟩) ((f k).xs.length + 1) cap) ((f k).xs.length + 1) ((f k).xs.flatMap en1 ++ [.int .i64 x]))
    (hg : (Value.slice (f k).A (f k).xs.length (f k).cap).ownBlock = some g ∨ w.heap.size ≤ g) : GaS w0 P H n cs (fun j => if j = k then ⟨some ⟨g, 0, none⟩, cap, (f k).xs ++ [x]⟩ else f j) (w'.setCell ⟨H, k, none⟩ (.slice (some ⟨g, 0, none⟩) ((f k).xs.length + 1) cap)) := by
  have hr := h.r k hk
  have hp := hT.blk h.p (fun e => own_notBlk hr h.p (by decide) e)
  have hh := hT.blk h.h (fun e => own_notBlk hr h.h (by decide) e)
  have hT2 := Touch.setCell w' H k (.slice (some ⟨g, 0, none⟩) ((f k).xs.length + 1) cap)
  have no2 : ∀ {base : Nat} {v : Value} {m : Nat} {xs : List Value}, w'.ownsRow base 3 1 v m xs → (w'.setCell ⟨H, k, none⟩ (.slice (some ⟨g, 0, none⟩) ((f k).xs.length + 1) cap)).ownsRow base 3 1 v m xs := fun ho2 => own_touch ho2 hT2 (fun q hq e => own_notBlk ho2 hh (by decide) (by rw [hq, e]))
  refine ⟨hT2.blk hp (fun e => hp.ne_ hh (by decide) e), ?_, fun j hj => ?_, fun j j' q hj hj' hne hq => ?_, ?_, h.lo, h.lp⟩
  · have := hh.set_ k (.slice (some ⟨g, 0, none⟩) ((f k).xs.length + 1) cap)
    rw [rngC_set _ _ hk] at this
    have e : (fun j => if j = k then Value.slice (some ⟨g, 0, none⟩) ((f k).xs.length + 1) cap else Value.slice (f j).A (f j).xs.length (f j).cap) = fun j => Value.slice (if j = k then (⟨some ⟨g, 0, none⟩, cap, (f k).xs ++ [x]⟩ : IRow) else f j).A (if j = k then (⟨some ⟨g, 0, none⟩, cap, (f k).xs ++ [x]⟩ : IRow) else f j).xs.length (if j = k then (⟨some ⟨g, 0, none⟩, cap, (f k).xs ++ [x]⟩ : IRow) else f j).cap := by
      funext j
      by_cases e : j = k
      · simp [e]
      · simp [e]
    rw [e] at this
    exact this
  · by_cases e : j = k
    · simp only [e, if_true]
      have := no2 ho
      unfold OwnR
      simpa [en1] using this
    · simp only [e, if_false]
      exact no2 (own_touch (h.r j hj) hT (fun q hq e' => h.d k j q hk hj (fun e2 => e e2.symm) e' hq))
  · by_cases e : j = k
    · simp only [e, if_true] at hq
      have e' : j' ≠ k := fun e2 => hne (by rw [e, e2])
      simp only [e', if_false]
      have hgq : g = q := by simpa [Value.ownBlock] using hq
      subst hgq
      rcases hg with hg | hg
      · exact h.d k j' g hk hj' (fun e2 => e' e2.symm) hg
      · intro hq'
        have := ((h.r j' hj').lt g hq').2
        omega
    · simp only [e, if_false] at hq
      by_cases e' : j' = k
      · simp only [e', if_true]
        intro hq'
        have hgq : g = q := by simpa [Value.ownBlock] using hq'
        subst hgq
        rcases hg with hg | hg
        · exact h.d j k g hj hk e hq hg
        · have := ((h.r j hj).lt g hq).2
          omega
      · simp only [e', if_false]
        exact h.d j j' q hj hj' hne hq
  · refine (h.t.trans hT (fun b hb => .inr ((hr.lt b hb).1))).trans hT2 (fun b hb => .inr (by rw [hb]; exact h.lo))
end

end Go.Proofs.Ytemhoaapapeilaa

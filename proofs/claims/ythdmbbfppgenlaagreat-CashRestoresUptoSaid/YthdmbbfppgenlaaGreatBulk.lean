/-
  How many values a datum holds: a slice's length is no more than its bulk (kept apart from the program).
-/
import Derived.Test.YthdmbbfppgenlaaGreatBase
namespace Go.Proofs.YthdmbbfppgenlaaGreat.bulks
open Go.ChangeShapes Go.WideShapes Go.ChangeAt Go.RowKit Go.Deep
set_option linter.unusedVariables false

theorem pos {H : Type} (d : DataW H) : 1 ≤ Rows.uptoBulk d := by
  cases d with
  | lit v => cases v <;> simp [Rows.uptoBulk]
  | _ => simp [Rows.uptoBulk]
theorem all_le {H : Type} : ∀ l : List (DataW H), l.length ≤ Rows.uptoBulkAll l
  | [] => Nat.zero_le _
  | d :: l => by
    have := pos d
    have := all_le l
    simp only [Rows.uptoBulkAll, List.length_cons]
    omega
theorem slice_le {H : Type} (elems spare : List (DataW H)) : elems.length ≤ Rows.uptoBulk (DataW.slice elems spare) := by
  have := all_le elems
  simp only [Rows.uptoBulk]
  omega

/-- A slice's length is no more than its datum's bulk. -/
theorem trod_le {H : Type} {enc : TypeId × Value → H} {P : Program} {w : World} {base : Nat} {spare : Nat → Bool} {held : Bool} {t e : TypeId} (ht : P.underlying t = some (.slice e)) {fuel : Nat} {A : Option Addr} {len cap : Nat} {x : DataW H × List MemPlace} (h : DataW.trod enc P w base spare held fuel t [.slice A len cap] = some x) : len ≤ Rows.uptoBulk x.1 := by
  rcases open_slice ht h with ⟨h0, _⟩ | ⟨a, len', cap', m, k, D, Pl, hcs, hb, hl, hm, hmm, hx, hi⟩
  · simp at h0
    omega
  · simp only [List.cons.injEq, Value.slice.injEq, and_true] at hcs
    obtain ⟨_, rfl, _⟩ := hcs
    rw [hx]
    have := slice_le ((List.range len).map D) ((List.range (m - len)).map fun j => D (len + j))
    simpa using this

end Go.Proofs.YthdmbbfppgenlaaGreat.bulks

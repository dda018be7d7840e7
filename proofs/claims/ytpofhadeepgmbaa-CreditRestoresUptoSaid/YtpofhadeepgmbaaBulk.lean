/-
  How many values a datum holds: a slice's length is no more than its bulk (kept apart from the program).
-/
import Derived.Test.YtpofhadeepgmbaaBase
namespace Go.Proofs.Ytpofhadeepgmbaa.bulks
open Go.RowKit
set_option linter.unusedVariables false

theorem pos {H : Type} (d : DataW H) : 1 ≤ Rows.uptoBulk d := by
  cases d with
  | lit v => cases v <;> simp [Rows.uptoBulk]
  | _ => simp [Rows.uptoBulk]
theorem all_le {H : Type} : ∀ l : List (DataW H), l.length ≤ Rows.uptoBulkAll l
  | [] => Nat.zero_le _
  | d :: l => by
    have := pos d
    have := all_le l
    simp only [Rows.uptoBulkAll, List.length_cons]
    omega
theorem slice_le {H : Type} (elems spare : List (DataW H)) : elems.length ≤ Rows.uptoBulk (DataW.slice elems spare) := by
  have := all_le elems
  simp only [Rows.uptoBulk]
  omega

end Go.Proofs.Ytpofhadeepgmbaa.bulks

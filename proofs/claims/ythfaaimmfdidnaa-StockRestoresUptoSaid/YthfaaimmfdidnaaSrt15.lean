/-
  Keys, sorted: slices.Sort at ints.
-/
import Derived.Test.YthfaaimmfdidnaaPlc
import Derived.Test.YthfaaimmfdidnaaSortedI15
import Derived.Test.YthfaaimmfdidnaaSortI15
import Derived.Shelf.SortM.Plain
import Derived.Shelf.SortM.SortNone
import Derived.Shelf.SlIterI.Sorted
namespace Go.Proofs.Ythfaaimmfdidnaa
open Go.RowKit Go.Maps Go.Sort
set_option linter.unusedVariables false

theorem sortsI (m : Nat) : AnyZI.SortsIn Try.prog Try.sortedI_ren Fence.wide m :=
  ⟨fun blk off cap ss W hH hblk hsz => callsIn_wide.2 (AnyM.slices_Sort_int Try.sortI blk off cap ss W hH hblk hsz),
   fun p cap W => callsIn_wide.2 (AnyM.slices_Sort_int_none Try.sortI p cap W)⟩
/-- The keys, sorted. -/
def srt (l : List Int) : List Int := l.mergeSort (fun x y => decide (x ≤ y))
theorem srt_perm (l : List Int) : (srt l).Perm l := List.mergeSort_perm _ _
theorem srt_sorted (l : List Int) : (srt l).Pairwise (fun a b => a ≤ b) := by
  have := List.pairwise_mergeSort (le := fun x y : Int => decide (x ≤ y)) (fun a b c h g => by simp only [decide_eq_true_eq] at *; omega) (fun a b => by simp only [Bool.or_eq_true, decide_eq_true_eq]; omega) l
  exact this.imp (fun h => by simpa using h)
theorem srt_rise {l : List Int} (hn : l.Nodup) : (srt l).Pairwise (fun a b => a < b) := by
  have h1 := srt_sorted l
  have h2 : (srt l).Nodup := (srt_perm l).nodup_iff.2 hn
  refine (h1.and h2).imp ?_
  rintro a b ⟨h, h'⟩
  omega

end Go.Proofs.Ythfaaimmfdidnaa

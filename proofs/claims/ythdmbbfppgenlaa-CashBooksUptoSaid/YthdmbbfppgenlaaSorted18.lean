/-
  The library's sort at the ledger's sums: every length. No condition.
-/
import Derived.Test.YthdmbbfppgenlaaLedSums
import Derived.Test.YthdmbbfppgenlaaSortLay18
import Derived.Shelf.SlSortCmp.NoneTotal
namespace Go.Proofs.Ythdmbbfppgenlaa
open Go.RowKit Go.WideShapes
set_option linter.unusedVariables false

theorem sortsLed : SortsL := by
  refine ⟨fun blk off cap d w hH hb hsz => ?_, fun p cap w => ?_⟩
  · have eg : ∀ args w, (callFunc 76 args).run Try.prog w = .ok (.enter 76 args) w := enters_of Try.func76 (by kernel_rfl) rfl
    exact AnyQ.slices_SortFunc Try.sortLed 3 Try.isAgg98 Try.sizeOf98 enS enS_len enS_one cfS swoS 76 #[] blk off cap d w eg (fun _ _ _ _ x y => lorder_any x y _) hH hb hsz
  · exact AnyF.slices_SortFunc_none Try.sortLed p cap _ w

end Go.Proofs.Ythdmbbfppgenlaa

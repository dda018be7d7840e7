/-
  The library's sort at the ledger's sums: every length. No condition.
-/
import Derived.Test.YthdmbbfppgenlaaGreatLedSums
import Derived.Test.YthdmbbfppgenlaaGreatSortLay18
import Derived.Shelf.SlSortCmp.NoneTotal
namespace Go.Proofs.YthdmbbfppgenlaaGreat
open Go.RowKit Go.WideShapes
set_option linter.unusedVariables false

theorem sortsLed : SortsL := by
  refine ⟨fun blk off cap d w hH hb hsz => ?_, fun p cap w => ?_⟩
  · have eg : ∀ args w, (callFunc 65 args).run Tryz.prog w = .ok (.enter 65 args) w := enters_of Tryz.func65 (by kernel_rfl) rfl
    exact AnyQ.slices_SortFunc Tryz.sortLed 3 Tryz.isAgg86 Tryz.sizeOf86 enS enS_len enS_one cfS swoS 65 #[] blk off cap d w eg (fun _ _ _ _ x y => lorder_any x y _) hH hb hsz
  · exact AnyF.slices_SortFunc_none Tryz.sortLed p cap _ w

end Go.Proofs.YthdmbbfppgenlaaGreat

/-
  The library's sort at timers: every length. No condition.
-/
import Derived.Test.YthlpcbpilfakmaaTimList
import Derived.Test.YthlpcbpilfakmaaSortLay09
import Derived.Shelf.SlSortCmp.NoneTotal
namespace Go.Proofs.Ythlpcbpilfakmaa
open Go.RowKit Go.WideShapes
set_option linter.unusedVariables false

theorem sortsTim : SortsT := by
  refine ⟨fun blk off cap d w hH hb hsz => ?_, fun p cap w => ?_⟩
  · have eg : ∀ args w, (callFunc 26 args).run Try.prog w = .ok (.enter 26 args) w := enters_of Try.func26 (by kernel_rfl) rfl
    exact AnyQ.slices_SortFunc Try.sortTim 3 Try.isAgg30 Try.sizeOf30 en3 en3_len en3_one cfT swoT 26 #[] blk off cap d w eg (fun _ _ _ _ x y => torder_any x y _) hH hb hsz
  · exact AnyF.slices_SortFunc_none Try.sortTim p cap _ w

end Go.Proofs.Ythlpcbpilfakmaa

/-
  The library's sort at the inbox's entries: every length. No condition.
-/
import Derived.Test.YtidjkigkfefojaaList08
import Derived.Test.YtidjkigkfefojaaSortLay08
import Derived.Shelf.SlSortCmp.NoneTotal
namespace Go.Proofs.Ytidjkigkfefojaa
open Go.RowKit Go.WideShapes
set_option linter.unusedVariables false

theorem sortsEnt : SortsAt Try.prog 24 (.func (.func 25) #[] #[]) enE5 5 ltE := by
  refine ⟨fun blk off cap d w hH hb hsz => ?_, fun p cap w => ?_⟩
  · have eg : ∀ args w, (callFunc 25 args).run Try.prog w = .ok (.enter 25 args) w := enters_of Try.func25 (by kernel_rfl) rfl
    exact AnyQ.slices_SortFunc Try.sortEnt 5 Try.isAgg58 Try.sizeOf58 enE5 enE5_len enE5_one cfE swoE 25 #[] blk off cap d w eg (fun _ _ _ _ x y => order_any x y _) hH hb hsz
  · exact AnyF.slices_SortFunc_none Try.sortEnt p cap _ w

end Go.Proofs.Ytidjkigkfefojaa

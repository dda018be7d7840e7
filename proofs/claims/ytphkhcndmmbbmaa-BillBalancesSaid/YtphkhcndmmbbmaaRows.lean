/-
  No cell of these rows narrows 'for every input' (looked for: loops, veiled, ifaces, maps, wideKeys, modest, calm, conditions, laid).
  DERIVED. THE GIVEN ROWS OF THIS SEAT. 6 by the template 'for every input the law returns true; each argument reads behind the call as it read before'; 0 by the template 'total and deterministic' (their statements: YtphkhcndmmbbmaaTotals.lean).
  GIVEN WITH THE SEED: the statements are not yours to turn. If you find one false, say at which input.
  Laid BY PROGRAM, IN A SANDBOX (cutbox-rows.mjs): the forced cells as the released guide's own fill.sh prints them over the translation 8649b79405528fac… (all of the seat's roots in one cut). By AI agents, Wed Nov 11 2026. No macro, syntax, notation, axiom, sorry.
-/
import Derived.Test.YtphkhcndmmbbmaaChecked
import GoSem.Claim
import GoSem.ClaimJoined
import GoSem.ClaimMapViews
import Derived.JoinedTies
import Derived.KernelRfl
namespace Go.Proofs.Ytphkhcndmmbbmaa
/- THE CELL 'sum', in the pinned program and in every row, IS THE sha256 OF THE DUMP (.gsa) THAT YtphkhcndmmbbmaaProg.lean LOADS. Nothing in Lean hashes anything: it is a label: what it is worth is what the hold of that sum in a sandbox is worth. -/
noncomputable def Try.pinned : Pinned := { name := "ytphkhcndmmbbmaa", sum := "8649b79405528fac076faa9adfdbd309948de21836df1b85325beef12ce43e25", checked := Try.checked }
namespace Rows
def none {H : Type} : Left H := { results := [], args := [] }

/-- 'chandlerlaw17.BillTotals': WHATEVER THE INPUT: true; the input reads as it did. -/
def billTotalsSpec : ChangeSpec := { name := "billTotals", fn := fun _ => fun
  | [d] => { results := [.lit (.bool true)], args := [d] }
  | _ => none }
def billTotalsRow : OpenClaim := { program := "ytphkhcndmmbbmaa", sum := "8649b79405528fac076faa9adfdbd309948de21836df1b85325beef12ce43e25", func := "chandler/chandlerlaw17.BillTotals", spec := "billTotals", apart := false }
def BillTotalsSaid : Prop := billTotalsRow.holds Try.pinned (OpenSpec.ofChange billTotalsSpec)

/-- ITS FALSE NEIGHBOUR: 'it returns false'. Refute it at one input. -/
def billTotalsWrong : ChangeSpec := { name := "billTotals", fn := fun _ => fun
  | [d] => { results := [.lit (.bool false)], args := [d] }
  | _ => none }
def BillTotalsWrongFalsely : Prop := billTotalsRow.holds Try.pinned (OpenSpec.ofChange billTotalsWrong)

/-- 'chandlerlaw17.BillSums': WHATEVER THE INPUT: true; the input reads as it did. -/
def billSumsSpec : ChangeSpec := { name := "billSums", fn := fun _ => fun
  | [d] => { results := [.lit (.bool true)], args := [d] }
  | _ => none }
def billSumsRow : OpenClaim := { program := "ytphkhcndmmbbmaa", sum := "8649b79405528fac076faa9adfdbd309948de21836df1b85325beef12ce43e25", func := "chandler/chandlerlaw17.BillSums", spec := "billSums", apart := false }
def BillSumsSaid : Prop := billSumsRow.holds Try.pinned (OpenSpec.ofChange billSumsSpec)

/-- ITS FALSE NEIGHBOUR: 'it returns false'. Refute it at one input. -/
def billSumsWrong : ChangeSpec := { name := "billSums", fn := fun _ => fun
  | [d] => { results := [.lit (.bool false)], args := [d] }
  | _ => none }
def BillSumsWrongFalsely : Prop := billSumsRow.holds Try.pinned (OpenSpec.ofChange billSumsWrong)

/-- 'chandlerlaw17.BillRounds': WHATEVER THE INPUT: true; the input reads as it did. -/
def billRoundsSpec : ChangeSpec := { name := "billRounds", fn := fun _ => fun
  | [d] => { results := [.lit (.bool true)], args := [d] }
  | _ => none }
def billRoundsRow : OpenClaim := { program := "ytphkhcndmmbbmaa", sum := "8649b79405528fac076faa9adfdbd309948de21836df1b85325beef12ce43e25", func := "chandler/chandlerlaw17.BillRounds", spec := "billRounds", apart := false }
def BillRoundsSaid : Prop := billRoundsRow.holds Try.pinned (OpenSpec.ofChange billRoundsSpec)

/-- ITS FALSE NEIGHBOUR: 'it returns false'. Refute it at one input. -/
def billRoundsWrong : ChangeSpec := { name := "billRounds", fn := fun _ => fun
  | [d] => { results := [.lit (.bool false)], args := [d] }
  | _ => none }
def BillRoundsWrongFalsely : Prop := billRoundsRow.holds Try.pinned (OpenSpec.ofChange billRoundsWrong)

/-- 'chandlerlaw17.BillMoves': WHATEVER THE INPUT: true; the input reads as it did. -/
def billMovesSpec : ChangeSpec := { name := "billMoves", fn := fun _ => fun
  | [d] => { results := [.lit (.bool true)], args := [d] }
  | _ => none }
def billMovesRow : OpenClaim := { program := "ytphkhcndmmbbmaa", sum := "8649b79405528fac076faa9adfdbd309948de21836df1b85325beef12ce43e25", func := "chandler/chandlerlaw17.BillMoves", spec := "billMoves", apart := false }
def BillMovesSaid : Prop := billMovesRow.holds Try.pinned (OpenSpec.ofChange billMovesSpec)

/-- ITS FALSE NEIGHBOUR: 'it returns false'. Refute it at one input. -/
def billMovesWrong : ChangeSpec := { name := "billMoves", fn := fun _ => fun
  | [d] => { results := [.lit (.bool false)], args := [d] }
  | _ => none }
def BillMovesWrongFalsely : Prop := billMovesRow.holds Try.pinned (OpenSpec.ofChange billMovesWrong)

/-- 'chandlerlaw17.BillPosts': WHATEVER THE INPUT: true; the input reads as it did. -/
def billPostsSpec : ChangeSpec := { name := "billPosts", fn := fun _ => fun
  | [d] => { results := [.lit (.bool true)], args := [d] }
  | _ => none }
def billPostsRow : OpenClaim := { program := "ytphkhcndmmbbmaa", sum := "8649b79405528fac076faa9adfdbd309948de21836df1b85325beef12ce43e25", func := "chandler/chandlerlaw17.BillPosts", spec := "billPosts", apart := false }
def BillPostsSaid : Prop := billPostsRow.holds Try.pinned (OpenSpec.ofChange billPostsSpec)

/-- ITS FALSE NEIGHBOUR: 'it returns false'. Refute it at one input. -/
def billPostsWrong : ChangeSpec := { name := "billPosts", fn := fun _ => fun
  | [d] => { results := [.lit (.bool false)], args := [d] }
  | _ => none }
def BillPostsWrongFalsely : Prop := billPostsRow.holds Try.pinned (OpenSpec.ofChange billPostsWrong)

/-- 'chandlerlaw17.BillBalances': WHATEVER THE INPUT: true; the input reads as it did. -/
def billBalancesSpec : ChangeSpec := { name := "billBalances", fn := fun _ => fun
  | [d] => { results := [.lit (.bool true)], args := [d] }
  | _ => none }
def billBalancesRow : OpenClaim := { program := "ytphkhcndmmbbmaa", sum := "8649b79405528fac076faa9adfdbd309948de21836df1b85325beef12ce43e25", func := "chandler/chandlerlaw17.BillBalances", spec := "billBalances", apart := false }
def BillBalancesSaid : Prop := billBalancesRow.holds Try.pinned (OpenSpec.ofChange billBalancesSpec)

/-- ITS FALSE NEIGHBOUR: 'it returns false'. Refute it at one input. -/
def billBalancesWrong : ChangeSpec := { name := "billBalances", fn := fun _ => fun
  | [d] => { results := [.lit (.bool false)], args := [d] }
  | _ => none }
def BillBalancesWrongFalsely : Prop := billBalancesRow.holds Try.pinned (OpenSpec.ofChange billBalancesWrong)

/- THE SECOND FORM. 'bulk': how many values and letters a reading holds, each counted each time it is reached (what is shared counts as often as it is met; a slice's spare places count too). A statement '..UptoSaid' is the law's where the arguments, and the package variables that the reading takes, are together of bulk at most 1048576: NARROWER than '..Said'. Prove '..Said' where nothing that the law and all that it calls make is longer than what came in: it says more and counts as full. Else prove '..UptoSaid'. A law counts once. -/
mutual
def uptoBulk {H : Type} : DataW H → Nat
  | .lit (.string bytes) => bytes.length + 1
  | .lit _ => 1
  | .nil => 1
  | .ptr d => uptoBulk d + 1
  | .slice elems spare => uptoBulkAll elems + uptoBulkAll spare + 1
  | .agg parts => uptoBulkAll parts + 1
  | .iface _ d => uptoBulk d + 1
  | .map entries => uptoBulkEntries entries + 1
  | .held _ => 1
def uptoBulkAll {H : Type} : List (DataW H) → Nat
  | [] => 0
  | d :: r => uptoBulk d + uptoBulkAll r
def uptoBulkEntries {H : Type} : List (Lit × DataW H) → Nat
  | [] => 0
  | x :: r => uptoBulkEntry x + uptoBulkEntries r
def uptoBulkEntry {H : Type} : Lit × DataW H → Nat
  | (.string bytes, d) => bytes.length + uptoBulk d + 1
  | (_, d) => uptoBulk d + 1
 end
def uptoSmall : (H : Type) → List (DataW H) → Bool := fun _ ds => decide (uptoBulkAll ds ≤ 1048576)
def OpenSpec.upto (s : _root_.Go.ChangeSpec) : _root_.Go.OpenSpec := { _root_.Go.OpenSpec.ofChange s with cond := some uptoSmall }

/-- 'chandlerlaw17.BillTotals', WHERE WHAT IT READS IS OF BULK AT MOST 1048576: true; the input reads as it did. -/
def billTotalsUptoRow : OpenClaim := { program := "ytphkhcndmmbbmaa", sum := "8649b79405528fac076faa9adfdbd309948de21836df1b85325beef12ce43e25", func := "chandler/chandlerlaw17.BillTotals", spec := "billTotals", apart := false, narrowed := true }
def BillTotalsUptoSaid : Prop := billTotalsUptoRow.holds Try.pinned (OpenSpec.upto billTotalsSpec)

/-- 'chandlerlaw17.BillSums', WHERE WHAT IT READS IS OF BULK AT MOST 1048576: true; the input reads as it did. -/
def billSumsUptoRow : OpenClaim := { program := "ytphkhcndmmbbmaa", sum := "8649b79405528fac076faa9adfdbd309948de21836df1b85325beef12ce43e25", func := "chandler/chandlerlaw17.BillSums", spec := "billSums", apart := false, narrowed := true }
def BillSumsUptoSaid : Prop := billSumsUptoRow.holds Try.pinned (OpenSpec.upto billSumsSpec)

/-- 'chandlerlaw17.BillRounds', WHERE WHAT IT READS IS OF BULK AT MOST 1048576: true; the input reads as it did. -/
def billRoundsUptoRow : OpenClaim := { program := "ytphkhcndmmbbmaa", sum := "8649b79405528fac076faa9adfdbd309948de21836df1b85325beef12ce43e25", func := "chandler/chandlerlaw17.BillRounds", spec := "billRounds", apart := false, narrowed := true }
def BillRoundsUptoSaid : Prop := billRoundsUptoRow.holds Try.pinned (OpenSpec.upto billRoundsSpec)

/-- 'chandlerlaw17.BillMoves', WHERE WHAT IT READS IS OF BULK AT MOST 1048576: true; the input reads as it did. -/
def billMovesUptoRow : OpenClaim := { program := "ytphkhcndmmbbmaa", sum := "8649b79405528fac076faa9adfdbd309948de21836df1b85325beef12ce43e25", func := "chandler/chandlerlaw17.BillMoves", spec := "billMoves", apart := false, narrowed := true }
def BillMovesUptoSaid : Prop := billMovesUptoRow.holds Try.pinned (OpenSpec.upto billMovesSpec)

/-- 'chandlerlaw17.BillPosts', WHERE WHAT IT READS IS OF BULK AT MOST 1048576: true; the input reads as it did. -/
def billPostsUptoRow : OpenClaim := { program := "ytphkhcndmmbbmaa", sum := "8649b79405528fac076faa9adfdbd309948de21836df1b85325beef12ce43e25", func := "chandler/chandlerlaw17.BillPosts", spec := "billPosts", apart := false, narrowed := true }
def BillPostsUptoSaid : Prop := billPostsUptoRow.holds Try.pinned (OpenSpec.upto billPostsSpec)

/-- 'chandlerlaw17.BillBalances', WHERE WHAT IT READS IS OF BULK AT MOST 1048576: true; the input reads as it did. -/
def billBalancesUptoRow : OpenClaim := { program := "ytphkhcndmmbbmaa", sum := "8649b79405528fac076faa9adfdbd309948de21836df1b85325beef12ce43e25", func := "chandler/chandlerlaw17.BillBalances", spec := "billBalances", apart := false, narrowed := true }
def BillBalancesUptoSaid : Prop := billBalancesUptoRow.holds Try.pinned (OpenSpec.upto billBalancesSpec)

end Rows
end Go.Proofs.Ytphkhcndmmbbmaa

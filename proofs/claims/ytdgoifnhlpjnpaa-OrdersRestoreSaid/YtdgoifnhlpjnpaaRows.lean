/-
  No cell of these rows narrows 'for every input' (looked for: loops, veiled, ifaces, maps, wideKeys, modest, calm, conditions, laid).
  DERIVED. THE GIVEN ROWS OF THIS SEAT. 6 by the template 'for every input the law returns true; each argument reads behind the call as it read before'; 0 by the template 'total and deterministic' (their statements: YtdgoifnhlpjnpaaTotals.lean).
  GIVEN WITH THE SEED: the statements are not yours to turn. If you find one false, say at which input.
  Laid BY PROGRAM, IN A SANDBOX (cutbox-rows.mjs): the forced cells as the released guide's own fill.sh prints them over the translation 5df0729f99430df6… (all of the seat's roots in one cut). By AI agents, Wed Nov 11 2026. No macro, syntax, notation, axiom, sorry.
-/
import Derived.Test.YtdgoifnhlpjnpaaChecked
import GoSem.Claim
import GoSem.ClaimJoined
import GoSem.ClaimMapViews
import Derived.JoinedTies
import Derived.KernelRfl
namespace Go.Proofs.Ytdgoifnhlpjnpaa
/- THE CELL 'sum', in the pinned program and in every row, IS THE sha256 OF THE DUMP (.gsa) THAT YtdgoifnhlpjnpaaProg.lean LOADS. Nothing in Lean hashes anything: it is a label: what it is worth is what the hold of that sum in a sandbox is worth. -/
noncomputable def Try.pinned : Pinned := { name := "ytdgoifnhlpjnpaa", sum := "5df0729f99430df6b757ca34bd9c23fa76986f4b99c7019f2c83691e5278e24e", checked := Try.checked }
namespace Rows
def none {H : Type} : Left H := { results := [], args := [] }

/-- 'chandlerlaw19.OrdersMay': WHATEVER THE INPUT: true; the input reads as it did. -/
def ordersMaySpec : ChangeSpec := { name := "ordersMay", fn := fun _ => fun
  | [d] => { results := [.lit (.bool true)], args := [d] }
  | _ => none }
def ordersMayRow : OpenClaim := { program := "ytdgoifnhlpjnpaa", sum := "5df0729f99430df6b757ca34bd9c23fa76986f4b99c7019f2c83691e5278e24e", func := "chandler/chandlerlaw19.OrdersMay", spec := "ordersMay", unfollowed := true, recurses := true, apart := false }
def OrdersMaySaid : Prop := ordersMayRow.holds Try.pinned (OpenSpec.ofChange ordersMaySpec)

/-- ITS FALSE NEIGHBOUR: 'it returns false'. Refute it at one input. -/
def ordersMayWrong : ChangeSpec := { name := "ordersMay", fn := fun _ => fun
  | [d] => { results := [.lit (.bool false)], args := [d] }
  | _ => none }
def OrdersMayWrongFalsely : Prop := ordersMayRow.holds Try.pinned (OpenSpec.ofChange ordersMayWrong)

/-- 'chandlerlaw19.OrdersTotal': WHATEVER THE INPUT: true; the input reads as it did. -/
def ordersTotalSpec : ChangeSpec := { name := "ordersTotal", fn := fun _ => fun
  | [d1, d2] => { results := [.lit (.bool true)], args := [d1, d2] }
  | _ => none }
def ordersTotalRow : OpenClaim := { program := "ytdgoifnhlpjnpaa", sum := "5df0729f99430df6b757ca34bd9c23fa76986f4b99c7019f2c83691e5278e24e", func := "chandler/chandlerlaw19.OrdersTotal", spec := "ordersTotal", unfollowed := true, recurses := true, apart := false }
def OrdersTotalSaid : Prop := ordersTotalRow.holds Try.pinned (OpenSpec.ofChange ordersTotalSpec)

/-- ITS FALSE NEIGHBOUR: 'it returns false'. Refute it at one input. -/
def ordersTotalWrong : ChangeSpec := { name := "ordersTotal", fn := fun _ => fun
  | [d1, d2] => { results := [.lit (.bool false)], args := [d1, d2] }
  | _ => none }
def OrdersTotalWrongFalsely : Prop := ordersTotalRow.holds Try.pinned (OpenSpec.ofChange ordersTotalWrong)

/-- 'chandlerlaw19.OrdersRise': WHATEVER THE INPUT: true; the input reads as it did. -/
def ordersRiseSpec : ChangeSpec := { name := "ordersRise", fn := fun _ => fun
  | [d] => { results := [.lit (.bool true)], args := [d] }
  | _ => none }
def ordersRiseRow : OpenClaim := { program := "ytdgoifnhlpjnpaa", sum := "5df0729f99430df6b757ca34bd9c23fa76986f4b99c7019f2c83691e5278e24e", func := "chandler/chandlerlaw19.OrdersRise", spec := "ordersRise", unfollowed := true, recurses := true, apart := false }
def OrdersRiseSaid : Prop := ordersRiseRow.holds Try.pinned (OpenSpec.ofChange ordersRiseSpec)

/-- ITS FALSE NEIGHBOUR: 'it returns false'. Refute it at one input. -/
def ordersRiseWrong : ChangeSpec := { name := "ordersRise", fn := fun _ => fun
  | [d] => { results := [.lit (.bool false)], args := [d] }
  | _ => none }
def OrdersRiseWrongFalsely : Prop := ordersRiseRow.holds Try.pinned (OpenSpec.ofChange ordersRiseWrong)

/-- 'chandlerlaw19.OrdersPlay': WHATEVER THE INPUT: true; the input reads as it did. -/
def ordersPlaySpec : ChangeSpec := { name := "ordersPlay", fn := fun _ => fun
  | [d] => { results := [.lit (.bool true)], args := [d] }
  | _ => none }
def ordersPlayRow : OpenClaim := { program := "ytdgoifnhlpjnpaa", sum := "5df0729f99430df6b757ca34bd9c23fa76986f4b99c7019f2c83691e5278e24e", func := "chandler/chandlerlaw19.OrdersPlay", spec := "ordersPlay", unfollowed := true, recurses := true, apart := false }
def OrdersPlaySaid : Prop := ordersPlayRow.holds Try.pinned (OpenSpec.ofChange ordersPlaySpec)

/-- ITS FALSE NEIGHBOUR: 'it returns false'. Refute it at one input. -/
def ordersPlayWrong : ChangeSpec := { name := "ordersPlay", fn := fun _ => fun
  | [d] => { results := [.lit (.bool false)], args := [d] }
  | _ => none }
def OrdersPlayWrongFalsely : Prop := ordersPlayRow.holds Try.pinned (OpenSpec.ofChange ordersPlayWrong)

/-- 'chandlerlaw19.OrdersStay': WHATEVER THE INPUT: true; the input reads as it did. -/
def ordersStaySpec : ChangeSpec := { name := "ordersStay", fn := fun _ => fun
  | [d1, d2] => { results := [.lit (.bool true)], args := [d1, d2] }
  | _ => none }
def ordersStayRow : OpenClaim := { program := "ytdgoifnhlpjnpaa", sum := "5df0729f99430df6b757ca34bd9c23fa76986f4b99c7019f2c83691e5278e24e", func := "chandler/chandlerlaw19.OrdersStay", spec := "ordersStay", unfollowed := true, recurses := true, apart := false }
def OrdersStaySaid : Prop := ordersStayRow.holds Try.pinned (OpenSpec.ofChange ordersStaySpec)

/-- ITS FALSE NEIGHBOUR: 'it returns false'. Refute it at one input. -/
def ordersStayWrong : ChangeSpec := { name := "ordersStay", fn := fun _ => fun
  | [d1, d2] => { results := [.lit (.bool false)], args := [d1, d2] }
  | _ => none }
def OrdersStayWrongFalsely : Prop := ordersStayRow.holds Try.pinned (OpenSpec.ofChange ordersStayWrong)

/-- 'chandlerlaw19.OrdersRestore': WHATEVER THE INPUT: true; the input reads as it did. -/
def ordersRestoreSpec : ChangeSpec := { name := "ordersRestore", fn := fun _ => fun
  | [d1, d2, d3] => { results := [.lit (.bool true)], args := [d1, d2, d3] }
  | _ => none }
def ordersRestoreRow : OpenClaim := { program := "ytdgoifnhlpjnpaa", sum := "5df0729f99430df6b757ca34bd9c23fa76986f4b99c7019f2c83691e5278e24e", func := "chandler/chandlerlaw19.OrdersRestore", spec := "ordersRestore", unfollowed := true, recurses := true, apart := false }
def OrdersRestoreSaid : Prop := ordersRestoreRow.holds Try.pinned (OpenSpec.ofChange ordersRestoreSpec)

/-- ITS FALSE NEIGHBOUR: 'it returns false'. Refute it at one input. -/
def ordersRestoreWrong : ChangeSpec := { name := "ordersRestore", fn := fun _ => fun
  | [d1, d2, d3] => { results := [.lit (.bool false)], args := [d1, d2, d3] }
  | _ => none }
def OrdersRestoreWrongFalsely : Prop := ordersRestoreRow.holds Try.pinned (OpenSpec.ofChange ordersRestoreWrong)

/- THE SECOND FORM. 'bulk': how many values and letters a reading holds, each counted each time it is reached (what is shared counts as often as it is met; a slice's spare places count too). A statement '..UptoSaid' is the law's where the arguments, and the package variables that the reading takes, are together of bulk at most 1048576: NARROWER than '..Said'. Prove '..Said' where nothing that the law and all that it calls make is longer than what came in: it says more and counts as full. Else prove '..UptoSaid'. A law counts once. -/
mutual
def uptoBulk {H : Type} : DataW H → Nat
  | .lit (.string bytes) => bytes.length + 1
  | .lit _ => 1
  | .nil => 1
  | .ptr d => uptoBulk d + 1
  | .slice elems spare => uptoBulkAll elems + uptoBulkAll spare + 1
  | .agg parts => uptoBulkAll parts + 1
  | .iface _ d => uptoBulk d + 1
  | .map entries => uptoBulkEntries entries + 1
  | .held _ => 1
def uptoBulkAll {H : Type} : List (DataW H) → Nat
  | [] => 0
  | d :: r => uptoBulk d + uptoBulkAll r
def uptoBulkEntries {H : Type} : List (Lit × DataW H) → Nat
  | [] => 0
  | x :: r => uptoBulkEntry x + uptoBulkEntries r
def uptoBulkEntry {H : Type} : Lit × DataW H → Nat
  | (.string bytes, d) => bytes.length + uptoBulk d + 1
  | (_, d) => uptoBulk d + 1
 end
def uptoSmall : (H : Type) → List (DataW H) → Bool := fun _ ds => decide (uptoBulkAll ds ≤ 1048576)
def OpenSpec.upto (s : _root_.Go.ChangeSpec) : _root_.Go.OpenSpec := { _root_.Go.OpenSpec.ofChange s with cond := some uptoSmall }

/-- 'chandlerlaw19.OrdersMay', WHERE WHAT IT READS IS OF BULK AT MOST 1048576: true; the input reads as it did. -/
def ordersMayUptoRow : OpenClaim := { program := "ytdgoifnhlpjnpaa", sum := "5df0729f99430df6b757ca34bd9c23fa76986f4b99c7019f2c83691e5278e24e", func := "chandler/chandlerlaw19.OrdersMay", spec := "ordersMay", unfollowed := true, recurses := true, apart := false, narrowed := true }
def OrdersMayUptoSaid : Prop := ordersMayUptoRow.holds Try.pinned (OpenSpec.upto ordersMaySpec)

/-- 'chandlerlaw19.OrdersTotal', WHERE WHAT IT READS IS OF BULK AT MOST 1048576: true; the input reads as it did. -/
def ordersTotalUptoRow : OpenClaim := { program := "ytdgoifnhlpjnpaa", sum := "5df0729f99430df6b757ca34bd9c23fa76986f4b99c7019f2c83691e5278e24e", func := "chandler/chandlerlaw19.OrdersTotal", spec := "ordersTotal", unfollowed := true, recurses := true, apart := false, narrowed := true }
def OrdersTotalUptoSaid : Prop := ordersTotalUptoRow.holds Try.pinned (OpenSpec.upto ordersTotalSpec)

/-- 'chandlerlaw19.OrdersRise', WHERE WHAT IT READS IS OF BULK AT MOST 1048576: true; the input reads as it did. -/
def ordersRiseUptoRow : OpenClaim := { program := "ytdgoifnhlpjnpaa", sum := "5df0729f99430df6b757ca34bd9c23fa76986f4b99c7019f2c83691e5278e24e", func := "chandler/chandlerlaw19.OrdersRise", spec := "ordersRise", unfollowed := true, recurses := true, apart := false, narrowed := true }
def OrdersRiseUptoSaid : Prop := ordersRiseUptoRow.holds Try.pinned (OpenSpec.upto ordersRiseSpec)

/-- 'chandlerlaw19.OrdersPlay', WHERE WHAT IT READS IS OF BULK AT MOST 1048576: true; the input reads as it did. -/
def ordersPlayUptoRow : OpenClaim := { program := "ytdgoifnhlpjnpaa", sum := "5df0729f99430df6b757ca34bd9c23fa76986f4b99c7019f2c83691e5278e24e", func := "chandler/chandlerlaw19.OrdersPlay", spec := "ordersPlay", unfollowed := true, recurses := true, apart := false, narrowed := true }
def OrdersPlayUptoSaid : Prop := ordersPlayUptoRow.holds Try.pinned (OpenSpec.upto ordersPlaySpec)

/-- 'chandlerlaw19.OrdersStay', WHERE WHAT IT READS IS OF BULK AT MOST 1048576: true; the input reads as it did. -/
def ordersStayUptoRow : OpenClaim := { program := "ytdgoifnhlpjnpaa", sum := "5df0729f99430df6b757ca34bd9c23fa76986f4b99c7019f2c83691e5278e24e", func := "chandler/chandlerlaw19.OrdersStay", spec := "ordersStay", unfollowed := true, recurses := true, apart := false, narrowed := true }
def OrdersStayUptoSaid : Prop := ordersStayUptoRow.holds Try.pinned (OpenSpec.upto ordersStaySpec)

/-- 'chandlerlaw19.OrdersRestore', WHERE WHAT IT READS IS OF BULK AT MOST 1048576: true; the input reads as it did. -/
def ordersRestoreUptoRow : OpenClaim := { program := "ytdgoifnhlpjnpaa", sum := "5df0729f99430df6b757ca34bd9c23fa76986f4b99c7019f2c83691e5278e24e", func := "chandler/chandlerlaw19.OrdersRestore", spec := "ordersRestore", unfollowed := true, recurses := true, apart := false, narrowed := true }
def OrdersRestoreUptoSaid : Prop := ordersRestoreUptoRow.holds Try.pinned (OpenSpec.upto ordersRestoreSpec)

end Rows
end Go.Proofs.Ytdgoifnhlpjnpaa

/-
  No cell of these rows narrows 'for every input' (looked for: loops, veiled, ifaces, maps, wideKeys, modest, calm, conditions, laid).
  DERIVED. THE GIVEN ROWS OF THIS SEAT. 6 by the template 'for every input the law returns true; each argument reads behind the call as it read before'; 0 by the template 'total and deterministic' (their statements: YthfaaimmfdidnaaTotals.lean).
  GIVEN WITH THE SEED: the statements are not yours to turn. If you find one false, say at which input.
  Laid BY PROGRAM, IN A SANDBOX (cutbox-rows.mjs): the forced cells as the released guide's own fill.sh prints them over the translation a9ea45cbaaac8514… (all of the seat's roots in one cut). By AI agents, Wed Nov 11 2026. No macro, syntax, notation, axiom, sorry.
-/
import Derived.Test.YthfaaimmfdidnaaChecked
import GoSem.Claim
import GoSem.ClaimJoined
import GoSem.ClaimMapViews
import Derived.JoinedTies
import Derived.KernelRfl
namespace Go.Proofs.Ythfaaimmfdidnaa
/- THE CELL 'sum', in the pinned program and in every row, IS THE sha256 OF THE DUMP (.gsa) THAT YthfaaimmfdidnaaProg.lean LOADS. Nothing in Lean hashes anything: it is a label: what it is worth is what the hold of that sum in a sandbox is worth. -/
noncomputable def Try.pinned : Pinned := { name := "ythfaaimmfdidnaa", sum := "a9ea45cbaaac8514116dc48548de64a8bfc5f0fdc09afd929cac62e8fe206f50", checked := Try.checked }
namespace Rows
def none {H : Type} : Left H := { results := [], args := [] }

/-- 'chandlerlaw15.StockExact': WHATEVER THE INPUT: true; the input reads as it did. -/
def stockExactSpec : ChangeSpec := { name := "stockExact", fn := fun _ => fun
  | [d1, d2] => { results := [.lit (.bool true)], args := [d1, d2] }
  | _ => none }
def stockExactRow : OpenClaim := { program := "ythfaaimmfdidnaa", sum := "a9ea45cbaaac8514116dc48548de64a8bfc5f0fdc09afd929cac62e8fe206f50", func := "chandler/chandlerlaw15.StockExact", spec := "stockExact", unfollowed := true, recurses := true, apart := false }
def StockExactSaid : Prop := stockExactRow.holds Try.pinned (OpenSpec.ofChange stockExactSpec)

/-- ITS FALSE NEIGHBOUR: 'it returns false'. Refute it at one input. -/
def stockExactWrong : ChangeSpec := { name := "stockExact", fn := fun _ => fun
  | [d1, d2] => { results := [.lit (.bool false)], args := [d1, d2] }
  | _ => none }
def StockExactWrongFalsely : Prop := stockExactRow.holds Try.pinned (OpenSpec.ofChange stockExactWrong)

/-- 'chandlerlaw15.StockOnward': WHATEVER THE INPUT: true; the input reads as it did. -/
def stockOnwardSpec : ChangeSpec := { name := "stockOnward", fn := fun _ => fun
  | [d] => { results := [.lit (.bool true)], args := [d] }
  | _ => none }
def stockOnwardRow : OpenClaim := { program := "ythfaaimmfdidnaa", sum := "a9ea45cbaaac8514116dc48548de64a8bfc5f0fdc09afd929cac62e8fe206f50", func := "chandler/chandlerlaw15.StockOnward", spec := "stockOnward", unfollowed := true, recurses := true, apart := false }
def StockOnwardSaid : Prop := stockOnwardRow.holds Try.pinned (OpenSpec.ofChange stockOnwardSpec)

/-- ITS FALSE NEIGHBOUR: 'it returns false'. Refute it at one input. -/
def stockOnwardWrong : ChangeSpec := { name := "stockOnward", fn := fun _ => fun
  | [d] => { results := [.lit (.bool false)], args := [d] }
  | _ => none }
def StockOnwardWrongFalsely : Prop := stockOnwardRow.holds Try.pinned (OpenSpec.ofChange stockOnwardWrong)

/-- 'chandlerlaw15.StockPlays': WHATEVER THE INPUT: true; the input reads as it did. -/
def stockPlaysSpec : ChangeSpec := { name := "stockPlays", fn := fun _ => fun
  | [d] => { results := [.lit (.bool true)], args := [d] }
  | _ => none }
def stockPlaysRow : OpenClaim := { program := "ythfaaimmfdidnaa", sum := "a9ea45cbaaac8514116dc48548de64a8bfc5f0fdc09afd929cac62e8fe206f50", func := "chandler/chandlerlaw15.StockPlays", spec := "stockPlays", unfollowed := true, recurses := true, apart := false }
def StockPlaysSaid : Prop := stockPlaysRow.holds Try.pinned (OpenSpec.ofChange stockPlaysSpec)

/-- ITS FALSE NEIGHBOUR: 'it returns false'. Refute it at one input. -/
def stockPlaysWrong : ChangeSpec := { name := "stockPlays", fn := fun _ => fun
  | [d] => { results := [.lit (.bool false)], args := [d] }
  | _ => none }
def StockPlaysWrongFalsely : Prop := stockPlaysRow.holds Try.pinned (OpenSpec.ofChange stockPlaysWrong)

/-- 'chandlerlaw15.StockBack': WHATEVER THE INPUT: true; the input reads as it did. -/
def stockBackSpec : ChangeSpec := { name := "stockBack", fn := fun _ => fun
  | [d1, d2, d3] => { results := [.lit (.bool true)], args := [d1, d2, d3] }
  | _ => none }
def stockBackRow : OpenClaim := { program := "ythfaaimmfdidnaa", sum := "a9ea45cbaaac8514116dc48548de64a8bfc5f0fdc09afd929cac62e8fe206f50", func := "chandler/chandlerlaw15.StockBack", spec := "stockBack", unfollowed := true, recurses := true, apart := false }
def StockBackSaid : Prop := stockBackRow.holds Try.pinned (OpenSpec.ofChange stockBackSpec)

/-- ITS FALSE NEIGHBOUR: 'it returns false'. Refute it at one input. -/
def stockBackWrong : ChangeSpec := { name := "stockBack", fn := fun _ => fun
  | [d1, d2, d3] => { results := [.lit (.bool false)], args := [d1, d2, d3] }
  | _ => none }
def StockBackWrongFalsely : Prop := stockBackRow.holds Try.pinned (OpenSpec.ofChange stockBackWrong)

/-- 'chandlerlaw15.StockSums': WHATEVER THE INPUT: true; the input reads as it did. -/
def stockSumsSpec : ChangeSpec := { name := "stockSums", fn := fun _ => fun
  | [d] => { results := [.lit (.bool true)], args := [d] }
  | _ => none }
def stockSumsRow : OpenClaim := { program := "ythfaaimmfdidnaa", sum := "a9ea45cbaaac8514116dc48548de64a8bfc5f0fdc09afd929cac62e8fe206f50", func := "chandler/chandlerlaw15.StockSums", spec := "stockSums", unfollowed := true, recurses := true, apart := false }
def StockSumsSaid : Prop := stockSumsRow.holds Try.pinned (OpenSpec.ofChange stockSumsSpec)

/-- ITS FALSE NEIGHBOUR: 'it returns false'. Refute it at one input. -/
def stockSumsWrong : ChangeSpec := { name := "stockSums", fn := fun _ => fun
  | [d] => { results := [.lit (.bool false)], args := [d] }
  | _ => none }
def StockSumsWrongFalsely : Prop := stockSumsRow.holds Try.pinned (OpenSpec.ofChange stockSumsWrong)

/-- 'chandlerlaw15.StockRestores': WHATEVER THE INPUT: true; the input reads as it did. -/
def stockRestoresSpec : ChangeSpec := { name := "stockRestores", fn := fun _ => fun
  | [d1, d2, d3] => { results := [.lit (.bool true)], args := [d1, d2, d3] }
  | _ => none }
def stockRestoresRow : OpenClaim := { program := "ythfaaimmfdidnaa", sum := "a9ea45cbaaac8514116dc48548de64a8bfc5f0fdc09afd929cac62e8fe206f50", func := "chandler/chandlerlaw15.StockRestores", spec := "stockRestores", unfollowed := true, recurses := true, apart := false }
def StockRestoresSaid : Prop := stockRestoresRow.holds Try.pinned (OpenSpec.ofChange stockRestoresSpec)

/-- ITS FALSE NEIGHBOUR: 'it returns false'. Refute it at one input. -/
def stockRestoresWrong : ChangeSpec := { name := "stockRestores", fn := fun _ => fun
  | [d1, d2, d3] => { results := [.lit (.bool false)], args := [d1, d2, d3] }
  | _ => none }
def StockRestoresWrongFalsely : Prop := stockRestoresRow.holds Try.pinned (OpenSpec.ofChange stockRestoresWrong)

/- THE SECOND FORM. 'bulk': how many values and letters a reading holds, each counted each time it is reached (what is shared counts as often as it is met; a slice's spare places count too). A statement '..UptoSaid' is the law's where the arguments, and the package variables that the reading takes, are together of bulk at most 1048576: NARROWER than '..Said'. Prove '..Said' where nothing that the law and all that it calls make is longer than what came in: it says more and counts as full. Else prove '..UptoSaid'. A law counts once. -/
mutual
def uptoBulk {H : Type} : DataW H → Nat
  | .lit (.string bytes) => bytes.length + 1
  | .lit _ => 1
  | .nil => 1
  | .ptr d => uptoBulk d + 1
  | .slice elems spare => uptoBulkAll elems + uptoBulkAll spare + 1
  | .agg parts => uptoBulkAll parts + 1
  | .iface _ d => uptoBulk d + 1
  | .map entries => uptoBulkEntries entries + 1
  | .held _ => 1
def uptoBulkAll {H : Type} : List (DataW H) → Nat
  | [] => 0
  | d :: r => uptoBulk d + uptoBulkAll r
def uptoBulkEntries {H : Type} : List (Lit × DataW H) → Nat
  | [] => 0
  | x :: r => uptoBulkEntry x + uptoBulkEntries r
def uptoBulkEntry {H : Type} : Lit × DataW H → Nat
  | (.string bytes, d) => bytes.length + uptoBulk d + 1
  | (_, d) => uptoBulk d + 1
 end
def uptoSmall : (H : Type) → List (DataW H) → Bool := fun _ ds => decide (uptoBulkAll ds ≤ 1048576)
def OpenSpec.upto (s : _root_.Go.ChangeSpec) : _root_.Go.OpenSpec := { _root_.Go.OpenSpec.ofChange s with cond := some uptoSmall }

/-- 'chandlerlaw15.StockExact', WHERE WHAT IT READS IS OF BULK AT MOST 1048576: true; the input reads as it did. -/
def stockExactUptoRow : OpenClaim := { program := "ythfaaimmfdidnaa", sum := "a9ea45cbaaac8514116dc48548de64a8bfc5f0fdc09afd929cac62e8fe206f50", func := "chandler/chandlerlaw15.StockExact", spec := "stockExact", unfollowed := true, recurses := true, apart := false, narrowed := true }
def StockExactUptoSaid : Prop := stockExactUptoRow.holds Try.pinned (OpenSpec.upto stockExactSpec)

/-- 'chandlerlaw15.StockOnward', WHERE WHAT IT READS IS OF BULK AT MOST 1048576: true; the input reads as it did. -/
def stockOnwardUptoRow : OpenClaim := { program := "ythfaaimmfdidnaa", sum := "a9ea45cbaaac8514116dc48548de64a8bfc5f0fdc09afd929cac62e8fe206f50", func := "chandler/chandlerlaw15.StockOnward", spec := "stockOnward", unfollowed := true, recurses := true, apart := false, narrowed := true }
def StockOnwardUptoSaid : Prop := stockOnwardUptoRow.holds Try.pinned (OpenSpec.upto stockOnwardSpec)

/-- 'chandlerlaw15.StockPlays', WHERE WHAT IT READS IS OF BULK AT MOST 1048576: true; the input reads as it did. -/
def stockPlaysUptoRow : OpenClaim := { program := "ythfaaimmfdidnaa", sum := "a9ea45cbaaac8514116dc48548de64a8bfc5f0fdc09afd929cac62e8fe206f50", func := "chandler/chandlerlaw15.StockPlays", spec := "stockPlays", unfollowed := true, recurses := true, apart := false, narrowed := true }
def StockPlaysUptoSaid : Prop := stockPlaysUptoRow.holds Try.pinned (OpenSpec.upto stockPlaysSpec)

/-- 'chandlerlaw15.StockBack', WHERE WHAT IT READS IS OF BULK AT MOST 1048576: true; the input reads as it did. -/
def stockBackUptoRow : OpenClaim := { program := "ythfaaimmfdidnaa", sum := "a9ea45cbaaac8514116dc48548de64a8bfc5f0fdc09afd929cac62e8fe206f50", func := "chandler/chandlerlaw15.StockBack", spec := "stockBack", unfollowed := true, recurses := true, apart := false, narrowed := true }
def StockBackUptoSaid : Prop := stockBackUptoRow.holds Try.pinned (OpenSpec.upto stockBackSpec)

/-- 'chandlerlaw15.StockSums', WHERE WHAT IT READS IS OF BULK AT MOST 1048576: true; the input reads as it did. -/
def stockSumsUptoRow : OpenClaim := { program := "ythfaaimmfdidnaa", sum := "a9ea45cbaaac8514116dc48548de64a8bfc5f0fdc09afd929cac62e8fe206f50", func := "chandler/chandlerlaw15.StockSums", spec := "stockSums", unfollowed := true, recurses := true, apart := false, narrowed := true }
def StockSumsUptoSaid : Prop := stockSumsUptoRow.holds Try.pinned (OpenSpec.upto stockSumsSpec)

/-- 'chandlerlaw15.StockRestores', WHERE WHAT IT READS IS OF BULK AT MOST 1048576: true; the input reads as it did. -/
def stockRestoresUptoRow : OpenClaim := { program := "ythfaaimmfdidnaa", sum := "a9ea45cbaaac8514116dc48548de64a8bfc5f0fdc09afd929cac62e8fe206f50", func := "chandler/chandlerlaw15.StockRestores", spec := "stockRestores", unfollowed := true, recurses := true, apart := false, narrowed := true }
def StockRestoresUptoSaid : Prop := stockRestoresUptoRow.holds Try.pinned (OpenSpec.upto stockRestoresSpec)

end Rows
end Go.Proofs.Ythfaaimmfdidnaa

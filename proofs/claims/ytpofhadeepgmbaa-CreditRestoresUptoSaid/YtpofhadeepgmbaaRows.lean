/-
  No cell of these rows narrows 'for every input' (looked for: loops, veiled, ifaces, maps, wideKeys, modest, calm, conditions, laid).
  DERIVED. THE GIVEN ROWS OF THIS SEAT. 6 by the template 'for every input the law returns true; each argument reads behind the call as it read before'; 0 by the template 'total and deterministic' (their statements: YtpofhadeepgmbaaTotals.lean).
  GIVEN WITH THE SEED: the statements are not yours to turn. If you find one false, say at which input.
  Laid BY PROGRAM, IN A SANDBOX (cutbox-rows.mjs): the forced cells as the released guide's own fill.sh prints them over the translation 1db757366a3706e0… (all of the seat's roots in one cut). By AI agents, Wed Nov 11 2026. No macro, syntax, notation, axiom, sorry.
-/
import Derived.Test.YtpofhadeepgmbaaChecked
import GoSem.Claim
import GoSem.ClaimJoined
import GoSem.ClaimMapViews
import Derived.JoinedTies
import Derived.KernelRfl
namespace Go.Proofs.Ytpofhadeepgmbaa
/- THE CELL 'sum', in the pinned program and in every row, IS THE sha256 OF THE DUMP (.gsa) THAT YtpofhadeepgmbaaProg.lean LOADS. Nothing in Lean hashes anything: it is a label: what it is worth is what the hold of that sum in a sandbox is worth. -/
noncomputable def Try.pinned : Pinned := { name := "ytpofhadeepgmbaa", sum := "1db757366a3706e022ac61ea60393bc7dbe0f87d0ccf4ed1ea39fcd09e16b89a", checked := Try.checked }
namespace Rows
def none {H : Type} : Left H := { results := [], args := [] }

/-- 'chandlerlaw14.CreditExact': WHATEVER THE INPUT: true; the input reads as it did. -/
def creditExactSpec : ChangeSpec := { name := "creditExact", fn := fun _ => fun
  | [d1, d2] => { results := [.lit (.bool true)], args := [d1, d2] }
  | _ => none }
def creditExactRow : OpenClaim := { program := "ytpofhadeepgmbaa", sum := "1db757366a3706e022ac61ea60393bc7dbe0f87d0ccf4ed1ea39fcd09e16b89a", func := "chandler/chandlerlaw14.CreditExact", spec := "creditExact", apart := false }
def CreditExactSaid : Prop := creditExactRow.holds Try.pinned (OpenSpec.ofChange creditExactSpec)

/-- ITS FALSE NEIGHBOUR: 'it returns false'. Refute it at one input. -/
def creditExactWrong : ChangeSpec := { name := "creditExact", fn := fun _ => fun
  | [d1, d2] => { results := [.lit (.bool false)], args := [d1, d2] }
  | _ => none }
def CreditExactWrongFalsely : Prop := creditExactRow.holds Try.pinned (OpenSpec.ofChange creditExactWrong)

/-- 'chandlerlaw14.CreditAlone': WHATEVER THE INPUT: true; the input reads as it did. -/
def creditAloneSpec : ChangeSpec := { name := "creditAlone", fn := fun _ => fun
  | [d1, d2] => { results := [.lit (.bool true)], args := [d1, d2] }
  | _ => none }
def creditAloneRow : OpenClaim := { program := "ytpofhadeepgmbaa", sum := "1db757366a3706e022ac61ea60393bc7dbe0f87d0ccf4ed1ea39fcd09e16b89a", func := "chandler/chandlerlaw14.CreditAlone", spec := "creditAlone", apart := false }
def CreditAloneSaid : Prop := creditAloneRow.holds Try.pinned (OpenSpec.ofChange creditAloneSpec)

/-- ITS FALSE NEIGHBOUR: 'it returns false'. Refute it at one input. -/
def creditAloneWrong : ChangeSpec := { name := "creditAlone", fn := fun _ => fun
  | [d1, d2] => { results := [.lit (.bool false)], args := [d1, d2] }
  | _ => none }
def CreditAloneWrongFalsely : Prop := creditAloneRow.holds Try.pinned (OpenSpec.ofChange creditAloneWrong)

/-- 'chandlerlaw14.CreditBounds': WHATEVER THE INPUT: true; the input reads as it did. -/
def creditBoundsSpec : ChangeSpec := { name := "creditBounds", fn := fun _ => fun
  | [d1, d2] => { results := [.lit (.bool true)], args := [d1, d2] }
  | _ => none }
def creditBoundsRow : OpenClaim := { program := "ytpofhadeepgmbaa", sum := "1db757366a3706e022ac61ea60393bc7dbe0f87d0ccf4ed1ea39fcd09e16b89a", func := "chandler/chandlerlaw14.CreditBounds", spec := "creditBounds", unfollowed := true, recurses := true, apart := false }
def CreditBoundsSaid : Prop := creditBoundsRow.holds Try.pinned (OpenSpec.ofChange creditBoundsSpec)

/-- ITS FALSE NEIGHBOUR: 'it returns false'. Refute it at one input. -/
def creditBoundsWrong : ChangeSpec := { name := "creditBounds", fn := fun _ => fun
  | [d1, d2] => { results := [.lit (.bool false)], args := [d1, d2] }
  | _ => none }
def CreditBoundsWrongFalsely : Prop := creditBoundsRow.holds Try.pinned (OpenSpec.ofChange creditBoundsWrong)

/-- 'chandlerlaw14.CreditPlays': WHATEVER THE INPUT: true; the input reads as it did. -/
def creditPlaysSpec : ChangeSpec := { name := "creditPlays", fn := fun _ => fun
  | [d] => { results := [.lit (.bool true)], args := [d] }
  | _ => none }
def creditPlaysRow : OpenClaim := { program := "ytpofhadeepgmbaa", sum := "1db757366a3706e022ac61ea60393bc7dbe0f87d0ccf4ed1ea39fcd09e16b89a", func := "chandler/chandlerlaw14.CreditPlays", spec := "creditPlays", unfollowed := true, recurses := true, apart := false }
def CreditPlaysSaid : Prop := creditPlaysRow.holds Try.pinned (OpenSpec.ofChange creditPlaysSpec)

/-- ITS FALSE NEIGHBOUR: 'it returns false'. Refute it at one input. -/
def creditPlaysWrong : ChangeSpec := { name := "creditPlays", fn := fun _ => fun
  | [d] => { results := [.lit (.bool false)], args := [d] }
  | _ => none }
def CreditPlaysWrongFalsely : Prop := creditPlaysRow.holds Try.pinned (OpenSpec.ofChange creditPlaysWrong)

/-- 'chandlerlaw14.CreditBack': WHATEVER THE INPUT: true; the input reads as it did. -/
def creditBackSpec : ChangeSpec := { name := "creditBack", fn := fun _ => fun
  | [d1, d2] => { results := [.lit (.bool true)], args := [d1, d2] }
  | _ => none }
def creditBackRow : OpenClaim := { program := "ytpofhadeepgmbaa", sum := "1db757366a3706e022ac61ea60393bc7dbe0f87d0ccf4ed1ea39fcd09e16b89a", func := "chandler/chandlerlaw14.CreditBack", spec := "creditBack", unfollowed := true, recurses := true, apart := false }
def CreditBackSaid : Prop := creditBackRow.holds Try.pinned (OpenSpec.ofChange creditBackSpec)

/-- ITS FALSE NEIGHBOUR: 'it returns false'. Refute it at one input. -/
def creditBackWrong : ChangeSpec := { name := "creditBack", fn := fun _ => fun
  | [d1, d2] => { results := [.lit (.bool false)], args := [d1, d2] }
  | _ => none }
def CreditBackWrongFalsely : Prop := creditBackRow.holds Try.pinned (OpenSpec.ofChange creditBackWrong)

/-- 'chandlerlaw14.CreditRestores': WHATEVER THE INPUT: true; the input reads as it did. -/
def creditRestoresSpec : ChangeSpec := { name := "creditRestores", fn := fun _ => fun
  | [d1, d2, d3] => { results := [.lit (.bool true)], args := [d1, d2, d3] }
  | _ => none }
def creditRestoresRow : OpenClaim := { program := "ytpofhadeepgmbaa", sum := "1db757366a3706e022ac61ea60393bc7dbe0f87d0ccf4ed1ea39fcd09e16b89a", func := "chandler/chandlerlaw14.CreditRestores", spec := "creditRestores", unfollowed := true, recurses := true, apart := false }
def CreditRestoresSaid : Prop := creditRestoresRow.holds Try.pinned (OpenSpec.ofChange creditRestoresSpec)

/-- ITS FALSE NEIGHBOUR: 'it returns false'. Refute it at one input. -/
def creditRestoresWrong : ChangeSpec := { name := "creditRestores", fn := fun _ => fun
  | [d1, d2, d3] => { results := [.lit (.bool false)], args := [d1, d2, d3] }
  | _ => none }
def CreditRestoresWrongFalsely : Prop := creditRestoresRow.holds Try.pinned (OpenSpec.ofChange creditRestoresWrong)

/- THE SECOND FORM. 'bulk': how many values and letters a reading holds, each counted each time it is reached (what is shared counts as often as it is met; a slice's spare places count too). A statement '..UptoSaid' is the law's where the arguments, and the package variables that the reading takes, are together of bulk at most 1048576: NARROWER than '..Said'. Prove '..Said' where nothing that the law and all that it calls make is longer than what came in: it says more and counts as full. Else prove '..UptoSaid'. A law counts once. -/
mutual
def uptoBulk {H : Type} : DataW H → Nat
  | .lit (.string bytes) => bytes.length + 1
  | .lit _ => 1
  | .nil => 1
  | .ptr d => uptoBulk d + 1
  | .slice elems spare => uptoBulkAll elems + uptoBulkAll spare + 1
  | .agg parts => uptoBulkAll parts + 1
  | .iface _ d => uptoBulk d + 1
  | .map entries => uptoBulkEntries entries + 1
  | .held _ => 1
def uptoBulkAll {H : Type} : List (DataW H) → Nat
  | [] => 0
  | d :: r => uptoBulk d + uptoBulkAll r
def uptoBulkEntries {H : Type} : List (Lit × DataW H) → Nat
  | [] => 0
  | x :: r => uptoBulkEntry x + uptoBulkEntries r
def uptoBulkEntry {H : Type} : Lit × DataW H → Nat
  | (.string bytes, d) => bytes.length + uptoBulk d + 1
  | (_, d) => uptoBulk d + 1
 end
def uptoSmall : (H : Type) → List (DataW H) → Bool := fun _ ds => decide (uptoBulkAll ds ≤ 1048576)
def OpenSpec.upto (s : _root_.Go.ChangeSpec) : _root_.Go.OpenSpec := { _root_.Go.OpenSpec.ofChange s with cond := some uptoSmall }

/-- 'chandlerlaw14.CreditExact', WHERE WHAT IT READS IS OF BULK AT MOST 1048576: true; the input reads as it did. -/
def creditExactUptoRow : OpenClaim := { program := "ytpofhadeepgmbaa", sum := "1db757366a3706e022ac61ea60393bc7dbe0f87d0ccf4ed1ea39fcd09e16b89a", func := "chandler/chandlerlaw14.CreditExact", spec := "creditExact", apart := false, narrowed := true }
def CreditExactUptoSaid : Prop := creditExactUptoRow.holds Try.pinned (OpenSpec.upto creditExactSpec)

/-- 'chandlerlaw14.CreditAlone', WHERE WHAT IT READS IS OF BULK AT MOST 1048576: true; the input reads as it did. -/
def creditAloneUptoRow : OpenClaim := { program := "ytpofhadeepgmbaa", sum := "1db757366a3706e022ac61ea60393bc7dbe0f87d0ccf4ed1ea39fcd09e16b89a", func := "chandler/chandlerlaw14.CreditAlone", spec := "creditAlone", apart := false, narrowed := true }
def CreditAloneUptoSaid : Prop := creditAloneUptoRow.holds Try.pinned (OpenSpec.upto creditAloneSpec)

/-- 'chandlerlaw14.CreditBounds', WHERE WHAT IT READS IS OF BULK AT MOST 1048576: true; the input reads as it did. -/
def creditBoundsUptoRow : OpenClaim := { program := "ytpofhadeepgmbaa", sum := "1db757366a3706e022ac61ea60393bc7dbe0f87d0ccf4ed1ea39fcd09e16b89a", func := "chandler/chandlerlaw14.CreditBounds", spec := "creditBounds", unfollowed := true, recurses := true, apart := false, narrowed := true }
def CreditBoundsUptoSaid : Prop := creditBoundsUptoRow.holds Try.pinned (OpenSpec.upto creditBoundsSpec)

/-- 'chandlerlaw14.CreditPlays', WHERE WHAT IT READS IS OF BULK AT MOST 1048576: true; the input reads as it did. -/
def creditPlaysUptoRow : OpenClaim := { program := "ytpofhadeepgmbaa", sum := "1db757366a3706e022ac61ea60393bc7dbe0f87d0ccf4ed1ea39fcd09e16b89a", func := "chandler/chandlerlaw14.CreditPlays", spec := "creditPlays", unfollowed := true, recurses := true, apart := false, narrowed := true }
def CreditPlaysUptoSaid : Prop := creditPlaysUptoRow.holds Try.pinned (OpenSpec.upto creditPlaysSpec)

/-- 'chandlerlaw14.CreditBack', WHERE WHAT IT READS IS OF BULK AT MOST 1048576: true; the input reads as it did. -/
def creditBackUptoRow : OpenClaim := { program := "ytpofhadeepgmbaa", sum := "1db757366a3706e022ac61ea60393bc7dbe0f87d0ccf4ed1ea39fcd09e16b89a", func := "chandler/chandlerlaw14.CreditBack", spec := "creditBack", unfollowed := true, recurses := true, apart := false, narrowed := true }
def CreditBackUptoSaid : Prop := creditBackUptoRow.holds Try.pinned (OpenSpec.upto creditBackSpec)

/-- 'chandlerlaw14.CreditRestores', WHERE WHAT IT READS IS OF BULK AT MOST 1048576: true; the input reads as it did. -/
def creditRestoresUptoRow : OpenClaim := { program := "ytpofhadeepgmbaa", sum := "1db757366a3706e022ac61ea60393bc7dbe0f87d0ccf4ed1ea39fcd09e16b89a", func := "chandler/chandlerlaw14.CreditRestores", spec := "creditRestores", unfollowed := true, recurses := true, apart := false, narrowed := true }
def CreditRestoresUptoSaid : Prop := creditRestoresUptoRow.holds Try.pinned (OpenSpec.upto creditRestoresSpec)

end Rows
end Go.Proofs.Ytpofhadeepgmbaa

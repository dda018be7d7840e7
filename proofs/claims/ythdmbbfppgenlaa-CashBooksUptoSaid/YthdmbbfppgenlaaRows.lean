/-
  No cell of these rows narrows 'for every input' (looked for: loops, veiled, ifaces, maps, wideKeys, modest, calm, conditions, laid).
  DERIVED. THE GIVEN ROWS OF THIS SEAT. 5 by the template 'for every input the law returns true; each argument reads behind the call as it read before'; 0 by the template 'total and deterministic' (their statements: YthdmbbfppgenlaaTotals.lean).
  GIVEN WITH THE SEED: the statements are not yours to turn. If you find one false, say at which input.
  Laid BY PROGRAM, IN A SANDBOX (cutbox-rows.mjs): the forced cells as the released guide's own fill.sh prints them over the translation e390aa406c310fd9… (all of the seat's roots in one cut). By AI agents, Wed Nov 11 2026. No macro, syntax, notation, axiom, sorry.
-/
import Derived.Test.YthdmbbfppgenlaaChecked
import GoSem.Claim
import GoSem.ClaimJoined
import GoSem.ClaimMapViews
import Derived.JoinedTies
import Derived.KernelRfl
namespace Go.Proofs.Ythdmbbfppgenlaa
/- THE CELL 'sum', in the pinned program and in every row, IS THE sha256 OF THE DUMP (.gsa) THAT YthdmbbfppgenlaaProg.lean LOADS. Nothing in Lean hashes anything: it is a label: what it is worth is what the hold of that sum in a sandbox is worth. -/
noncomputable def Try.pinned : Pinned := { name := "ythdmbbfppgenlaa", sum := "e390aa406c310fd948c062b558da6fa727f2a2b6074ebf3d93cc09042321a038", checked := Try.checked }
namespace Rows
def none {H : Type} : Left H := { results := [], args := [] }

/-- 'chandlerlaw18.CashPaid': WHATEVER THE INPUT: true; the input reads as it did. -/
def cashPaidSpec : ChangeSpec := { name := "cashPaid", fn := fun _ => fun
  | [d1, d2, d3] => { results := [.lit (.bool true)], args := [d1, d2, d3] }
  | _ => none }
def cashPaidRow : OpenClaim := { program := "ythdmbbfppgenlaa", sum := "e390aa406c310fd948c062b558da6fa727f2a2b6074ebf3d93cc09042321a038", func := "chandler/chandlerlaw18.CashPaid", spec := "cashPaid", unfollowed := true, recurses := true, plainKeys := false, apart := false }
def CashPaidSaid : Prop := cashPaidRow.holds Try.pinned (OpenSpec.ofChange cashPaidSpec)

/-- ITS FALSE NEIGHBOUR: 'it returns false'. Refute it at one input. -/
def cashPaidWrong : ChangeSpec := { name := "cashPaid", fn := fun _ => fun
  | [d1, d2, d3] => { results := [.lit (.bool false)], args := [d1, d2, d3] }
  | _ => none }
def CashPaidWrongFalsely : Prop := cashPaidRow.holds Try.pinned (OpenSpec.ofChange cashPaidWrong)

/-- 'chandlerlaw18.CashDuns': WHATEVER THE INPUT: true; the input reads as it did. -/
def cashDunsSpec : ChangeSpec := { name := "cashDuns", fn := fun _ => fun
  | [d1, d2] => { results := [.lit (.bool true)], args := [d1, d2] }
  | _ => none }
def cashDunsRow : OpenClaim := { program := "ythdmbbfppgenlaa", sum := "e390aa406c310fd948c062b558da6fa727f2a2b6074ebf3d93cc09042321a038", func := "chandler/chandlerlaw18.CashDuns", spec := "cashDuns", unfollowed := true, recurses := true, plainKeys := false, apart := false }
def CashDunsSaid : Prop := cashDunsRow.holds Try.pinned (OpenSpec.ofChange cashDunsSpec)

/-- ITS FALSE NEIGHBOUR: 'it returns false'. Refute it at one input. -/
def cashDunsWrong : ChangeSpec := { name := "cashDuns", fn := fun _ => fun
  | [d1, d2] => { results := [.lit (.bool false)], args := [d1, d2] }
  | _ => none }
def CashDunsWrongFalsely : Prop := cashDunsRow.holds Try.pinned (OpenSpec.ofChange cashDunsWrong)

/-- 'chandlerlaw18.CashBack': WHATEVER THE INPUT: true; the input reads as it did. -/
def cashBackSpec : ChangeSpec := { name := "cashBack", fn := fun _ => fun
  | [d1, d2, d3] => { results := [.lit (.bool true)], args := [d1, d2, d3] }
  | _ => none }
def cashBackRow : OpenClaim := { program := "ythdmbbfppgenlaa", sum := "e390aa406c310fd948c062b558da6fa727f2a2b6074ebf3d93cc09042321a038", func := "chandler/chandlerlaw18.CashBack", spec := "cashBack", unfollowed := true, recurses := true, plainKeys := false, apart := false }
def CashBackSaid : Prop := cashBackRow.holds Try.pinned (OpenSpec.ofChange cashBackSpec)

/-- ITS FALSE NEIGHBOUR: 'it returns false'. Refute it at one input. -/
def cashBackWrong : ChangeSpec := { name := "cashBack", fn := fun _ => fun
  | [d1, d2, d3] => { results := [.lit (.bool false)], args := [d1, d2, d3] }
  | _ => none }
def CashBackWrongFalsely : Prop := cashBackRow.holds Try.pinned (OpenSpec.ofChange cashBackWrong)

/-- 'chandlerlaw18.CashPlays': WHATEVER THE INPUT: true; the input reads as it did. -/
def cashPlaysSpec : ChangeSpec := { name := "cashPlays", fn := fun _ => fun
  | [d] => { results := [.lit (.bool true)], args := [d] }
  | _ => none }
def cashPlaysRow : OpenClaim := { program := "ythdmbbfppgenlaa", sum := "e390aa406c310fd948c062b558da6fa727f2a2b6074ebf3d93cc09042321a038", func := "chandler/chandlerlaw18.CashPlays", spec := "cashPlays", unfollowed := true, recurses := true, plainKeys := false, apart := false }
def CashPlaysSaid : Prop := cashPlaysRow.holds Try.pinned (OpenSpec.ofChange cashPlaysSpec)

/-- ITS FALSE NEIGHBOUR: 'it returns false'. Refute it at one input. -/
def cashPlaysWrong : ChangeSpec := { name := "cashPlays", fn := fun _ => fun
  | [d] => { results := [.lit (.bool false)], args := [d] }
  | _ => none }
def CashPlaysWrongFalsely : Prop := cashPlaysRow.holds Try.pinned (OpenSpec.ofChange cashPlaysWrong)

/-- 'chandlerlaw18.CashBooks': WHATEVER THE INPUT: true; the input reads as it did. -/
def cashBooksSpec : ChangeSpec := { name := "cashBooks", fn := fun _ => fun
  | [d] => { results := [.lit (.bool true)], args := [d] }
  | _ => none }
def cashBooksRow : OpenClaim := { program := "ythdmbbfppgenlaa", sum := "e390aa406c310fd948c062b558da6fa727f2a2b6074ebf3d93cc09042321a038", func := "chandler/chandlerlaw18.CashBooks", spec := "cashBooks", unfollowed := true, recurses := true, plainKeys := false, apart := false }
def CashBooksSaid : Prop := cashBooksRow.holds Try.pinned (OpenSpec.ofChange cashBooksSpec)

/-- ITS FALSE NEIGHBOUR: 'it returns false'. Refute it at one input. -/
def cashBooksWrong : ChangeSpec := { name := "cashBooks", fn := fun _ => fun
  | [d] => { results := [.lit (.bool false)], args := [d] }
  | _ => none }
def CashBooksWrongFalsely : Prop := cashBooksRow.holds Try.pinned (OpenSpec.ofChange cashBooksWrong)

/- THE SECOND FORM. 'bulk': how many values and letters a reading holds, each counted each time it is reached (what is shared counts as often as it is met; a slice's spare places count too). A statement '..UptoSaid' is the law's where the arguments, and the package variables that the reading takes, are together of bulk at most 1048576: NARROWER than '..Said'. Prove '..Said' where nothing that the law and all that it calls make is longer than what came in: it says more and counts as full. Else prove '..UptoSaid'. A law counts once. -/
mutual
def uptoBulk {H : Type} : DataW H → Nat
  | .lit (.string bytes) => bytes.length + 1
  | .lit _ => 1
  | .nil => 1
  | .ptr d => uptoBulk d + 1
  | .slice elems spare => uptoBulkAll elems + uptoBulkAll spare + 1
  | .agg parts => uptoBulkAll parts + 1
  | .iface _ d => uptoBulk d + 1
  | .map entries => uptoBulkEntries entries + 1
  | .held _ => 1
def uptoBulkAll {H : Type} : List (DataW H) → Nat
  | [] => 0
  | d :: r => uptoBulk d + uptoBulkAll r
def uptoBulkEntries {H : Type} : List (Lit × DataW H) → Nat
  | [] => 0
  | x :: r => uptoBulkEntry x + uptoBulkEntries r
def uptoBulkEntry {H : Type} : Lit × DataW H → Nat
  | (.string bytes, d) => bytes.length + uptoBulk d + 1
  | (_, d) => uptoBulk d + 1
 end
def uptoSmall : (H : Type) → List (DataW H) → Bool := fun _ ds => decide (uptoBulkAll ds ≤ 1048576)
def OpenSpec.upto (s : _root_.Go.ChangeSpec) : _root_.Go.OpenSpec := { _root_.Go.OpenSpec.ofChange s with cond := some uptoSmall }

/-- 'chandlerlaw18.CashPaid', WHERE WHAT IT READS IS OF BULK AT MOST 1048576: true; the input reads as it did. -/
def cashPaidUptoRow : OpenClaim := { program := "ythdmbbfppgenlaa", sum := "e390aa406c310fd948c062b558da6fa727f2a2b6074ebf3d93cc09042321a038", func := "chandler/chandlerlaw18.CashPaid", spec := "cashPaid", unfollowed := true, recurses := true, plainKeys := false, apart := false, narrowed := true }
def CashPaidUptoSaid : Prop := cashPaidUptoRow.holds Try.pinned (OpenSpec.upto cashPaidSpec)

/-- 'chandlerlaw18.CashDuns', WHERE WHAT IT READS IS OF BULK AT MOST 1048576: true; the input reads as it did. -/
def cashDunsUptoRow : OpenClaim := { program := "ythdmbbfppgenlaa", sum := "e390aa406c310fd948c062b558da6fa727f2a2b6074ebf3d93cc09042321a038", func := "chandler/chandlerlaw18.CashDuns", spec := "cashDuns", unfollowed := true, recurses := true, plainKeys := false, apart := false, narrowed := true }
def CashDunsUptoSaid : Prop := cashDunsUptoRow.holds Try.pinned (OpenSpec.upto cashDunsSpec)

/-- 'chandlerlaw18.CashBack', WHERE WHAT IT READS IS OF BULK AT MOST 1048576: true; the input reads as it did. -/
def cashBackUptoRow : OpenClaim := { program := "ythdmbbfppgenlaa", sum := "e390aa406c310fd948c062b558da6fa727f2a2b6074ebf3d93cc09042321a038", func := "chandler/chandlerlaw18.CashBack", spec := "cashBack", unfollowed := true, recurses := true, plainKeys := false, apart := false, narrowed := true }
def CashBackUptoSaid : Prop := cashBackUptoRow.holds Try.pinned (OpenSpec.upto cashBackSpec)

/-- 'chandlerlaw18.CashPlays', WHERE WHAT IT READS IS OF BULK AT MOST 1048576: true; the input reads as it did. -/
def cashPlaysUptoRow : OpenClaim := { program := "ythdmbbfppgenlaa", sum := "e390aa406c310fd948c062b558da6fa727f2a2b6074ebf3d93cc09042321a038", func := "chandler/chandlerlaw18.CashPlays", spec := "cashPlays", unfollowed := true, recurses := true, plainKeys := false, apart := false, narrowed := true }
def CashPlaysUptoSaid : Prop := cashPlaysUptoRow.holds Try.pinned (OpenSpec.upto cashPlaysSpec)

/-- 'chandlerlaw18.CashBooks', WHERE WHAT IT READS IS OF BULK AT MOST 1048576: true; the input reads as it did. -/
def cashBooksUptoRow : OpenClaim := { program := "ythdmbbfppgenlaa", sum := "e390aa406c310fd948c062b558da6fa727f2a2b6074ebf3d93cc09042321a038", func := "chandler/chandlerlaw18.CashBooks", spec := "cashBooks", unfollowed := true, recurses := true, plainKeys := false, apart := false, narrowed := true }
def CashBooksUptoSaid : Prop := cashBooksUptoRow.holds Try.pinned (OpenSpec.upto cashBooksSpec)

end Rows
end Go.Proofs.Ythdmbbfppgenlaa

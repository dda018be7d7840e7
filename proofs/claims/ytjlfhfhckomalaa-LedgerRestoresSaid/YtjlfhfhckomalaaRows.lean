/-
  No cell of these rows narrows 'for every input' (looked for: loops, veiled, ifaces, maps, wideKeys, modest, calm, conditions, laid).
  DERIVED. THE GIVEN ROWS OF THIS SEAT. 6 by the template 'for every input the law returns true; each argument reads behind the call as it read before'; 0 by the template 'total and deterministic' (their statements: YtjlfhfhckomalaaTotals.lean).
  GIVEN WITH THE SEED: the statements are not yours to turn. If you find one false, say at which input.
  Laid BY PROGRAM, IN A SANDBOX (cutbox-rows.mjs): the forced cells as the released guide's own fill.sh prints them over the translation f17f01c89cc1b59a… (all of the seat's roots in one cut). By AI agents, Wed Nov 11 2026. No macro, syntax, notation, axiom, sorry.
-/
import Derived.Test.YtjlfhfhckomalaaChecked
import GoSem.Claim
import GoSem.ClaimJoined
import GoSem.ClaimMapViews
import Derived.JoinedTies
import Derived.KernelRfl
namespace Go.Proofs.Ytjlfhfhckomalaa
/- THE CELL 'sum', in the pinned program and in every row, IS THE sha256 OF THE DUMP (.gsa) THAT YtjlfhfhckomalaaProg.lean LOADS. Nothing in Lean hashes anything: it is a label: what it is worth is what the hold of that sum in a sandbox is worth. -/
noncomputable def Try.pinned : Pinned := { name := "ytjlfhfhckomalaa", sum := "f17f01c89cc1b59ab702bc2735c8d8eef61101012af5141cb42943bb50506fe8", checked := Try.checked }
namespace Rows
def none {H : Type} : Left H := { results := [], args := [] }

/-- 'chandlerlaw16.LedgerOrder': WHATEVER THE INPUT: true; the input reads as it did. -/
def ledgerOrderSpec : ChangeSpec := { name := "ledgerOrder", fn := fun _ => fun
  | [d] => { results := [.lit (.bool true)], args := [d] }
  | _ => none }
def ledgerOrderRow : OpenClaim := { program := "ytjlfhfhckomalaa", sum := "f17f01c89cc1b59ab702bc2735c8d8eef61101012af5141cb42943bb50506fe8", func := "chandler/chandlerlaw16.LedgerOrder", spec := "ledgerOrder", unfollowed := true, recurses := true, plainKeys := false, apart := false }
def LedgerOrderSaid : Prop := ledgerOrderRow.holds Try.pinned (OpenSpec.ofChange ledgerOrderSpec)

/-- ITS FALSE NEIGHBOUR: 'it returns false'. Refute it at one input. -/
def ledgerOrderWrong : ChangeSpec := { name := "ledgerOrder", fn := fun _ => fun
  | [d] => { results := [.lit (.bool false)], args := [d] }
  | _ => none }
def LedgerOrderWrongFalsely : Prop := ledgerOrderRow.holds Try.pinned (OpenSpec.ofChange ledgerOrderWrong)

/-- 'chandlerlaw16.LedgerPlays': WHATEVER THE INPUT: true; the input reads as it did. -/
def ledgerPlaysSpec : ChangeSpec := { name := "ledgerPlays", fn := fun _ => fun
  | [d] => { results := [.lit (.bool true)], args := [d] }
  | _ => none }
def ledgerPlaysRow : OpenClaim := { program := "ytjlfhfhckomalaa", sum := "f17f01c89cc1b59ab702bc2735c8d8eef61101012af5141cb42943bb50506fe8", func := "chandler/chandlerlaw16.LedgerPlays", spec := "ledgerPlays", unfollowed := true, recurses := true, plainKeys := false, apart := false }
def LedgerPlaysSaid : Prop := ledgerPlaysRow.holds Try.pinned (OpenSpec.ofChange ledgerPlaysSpec)

/-- ITS FALSE NEIGHBOUR: 'it returns false'. Refute it at one input. -/
def ledgerPlaysWrong : ChangeSpec := { name := "ledgerPlays", fn := fun _ => fun
  | [d] => { results := [.lit (.bool false)], args := [d] }
  | _ => none }
def LedgerPlaysWrongFalsely : Prop := ledgerPlaysRow.holds Try.pinned (OpenSpec.ofChange ledgerPlaysWrong)

/-- 'chandlerlaw16.LedgerBack': WHATEVER THE INPUT: true; the input reads as it did. -/
def ledgerBackSpec : ChangeSpec := { name := "ledgerBack", fn := fun _ => fun
  | [d1, d2] => { results := [.lit (.bool true)], args := [d1, d2] }
  | _ => none }
def ledgerBackRow : OpenClaim := { program := "ytjlfhfhckomalaa", sum := "f17f01c89cc1b59ab702bc2735c8d8eef61101012af5141cb42943bb50506fe8", func := "chandler/chandlerlaw16.LedgerBack", spec := "ledgerBack", unfollowed := true, recurses := true, plainKeys := false, apart := false }
def LedgerBackSaid : Prop := ledgerBackRow.holds Try.pinned (OpenSpec.ofChange ledgerBackSpec)

/-- ITS FALSE NEIGHBOUR: 'it returns false'. Refute it at one input. -/
def ledgerBackWrong : ChangeSpec := { name := "ledgerBack", fn := fun _ => fun
  | [d1, d2] => { results := [.lit (.bool false)], args := [d1, d2] }
  | _ => none }
def LedgerBackWrongFalsely : Prop := ledgerBackRow.holds Try.pinned (OpenSpec.ofChange ledgerBackWrong)

/-- 'chandlerlaw16.LedgerRefused': WHATEVER THE INPUT: true; the input reads as it did. -/
def ledgerRefusedSpec : ChangeSpec := { name := "ledgerRefused", fn := fun _ => fun
  | [d1, d2] => { results := [.lit (.bool true)], args := [d1, d2] }
  | _ => none }
def ledgerRefusedRow : OpenClaim := { program := "ytjlfhfhckomalaa", sum := "f17f01c89cc1b59ab702bc2735c8d8eef61101012af5141cb42943bb50506fe8", func := "chandler/chandlerlaw16.LedgerRefused", spec := "ledgerRefused", unfollowed := true, recurses := true, plainKeys := false, apart := false }
def LedgerRefusedSaid : Prop := ledgerRefusedRow.holds Try.pinned (OpenSpec.ofChange ledgerRefusedSpec)

/-- ITS FALSE NEIGHBOUR: 'it returns false'. Refute it at one input. -/
def ledgerRefusedWrong : ChangeSpec := { name := "ledgerRefused", fn := fun _ => fun
  | [d1, d2] => { results := [.lit (.bool false)], args := [d1, d2] }
  | _ => none }
def LedgerRefusedWrongFalsely : Prop := ledgerRefusedRow.holds Try.pinned (OpenSpec.ofChange ledgerRefusedWrong)

/-- 'chandlerlaw16.LedgerRestores': WHATEVER THE INPUT: true; the input reads as it did. -/
def ledgerRestoresSpec : ChangeSpec := { name := "ledgerRestores", fn := fun _ => fun
  | [d1, d2, d3] => { results := [.lit (.bool true)], args := [d1, d2, d3] }
  | _ => none }
def ledgerRestoresRow : OpenClaim := { program := "ytjlfhfhckomalaa", sum := "f17f01c89cc1b59ab702bc2735c8d8eef61101012af5141cb42943bb50506fe8", func := "chandler/chandlerlaw16.LedgerRestores", spec := "ledgerRestores", unfollowed := true, recurses := true, plainKeys := false, apart := false }
def LedgerRestoresSaid : Prop := ledgerRestoresRow.holds Try.pinned (OpenSpec.ofChange ledgerRestoresSpec)

/-- ITS FALSE NEIGHBOUR: 'it returns false'. Refute it at one input. -/
def ledgerRestoresWrong : ChangeSpec := { name := "ledgerRestores", fn := fun _ => fun
  | [d1, d2, d3] => { results := [.lit (.bool false)], args := [d1, d2, d3] }
  | _ => none }
def LedgerRestoresWrongFalsely : Prop := ledgerRestoresRow.holds Try.pinned (OpenSpec.ofChange ledgerRestoresWrong)

/-- 'chandlerlaw16.LedgerBalances': WHATEVER THE INPUT: true; the input reads as it did. -/
def ledgerBalancesSpec : ChangeSpec := { name := "ledgerBalances", fn := fun _ => fun
  | [d] => { results := [.lit (.bool true)], args := [d] }
  | _ => none }
def ledgerBalancesRow : OpenClaim := { program := "ytjlfhfhckomalaa", sum := "f17f01c89cc1b59ab702bc2735c8d8eef61101012af5141cb42943bb50506fe8", func := "chandler/chandlerlaw16.LedgerBalances", spec := "ledgerBalances", unfollowed := true, recurses := true, plainKeys := false, apart := false }
def LedgerBalancesSaid : Prop := ledgerBalancesRow.holds Try.pinned (OpenSpec.ofChange ledgerBalancesSpec)

/-- ITS FALSE NEIGHBOUR: 'it returns false'. Refute it at one input. -/
def ledgerBalancesWrong : ChangeSpec := { name := "ledgerBalances", fn := fun _ => fun
  | [d] => { results := [.lit (.bool false)], args := [d] }
  | _ => none }
def LedgerBalancesWrongFalsely : Prop := ledgerBalancesRow.holds Try.pinned (OpenSpec.ofChange ledgerBalancesWrong)

/- THE SECOND FORM. 'bulk': how many values and letters a reading holds, each counted each time it is reached (what is shared counts as often as it is met; a slice's spare places count too). A statement '..UptoSaid' is the law's where the arguments, and the package variables that the reading takes, are together of bulk at most 1048576: NARROWER than '..Said'. Prove '..Said' where nothing that the law and all that it calls make is longer than what came in: it says more and counts as full. Else prove '..UptoSaid'. A law counts once. -/
mutual
def uptoBulk {H : Type} : DataW H → Nat
  | .lit (.string bytes) => bytes.length + 1
  | .lit _ => 1
  | .nil => 1
  | .ptr d => uptoBulk d + 1
  | .slice elems spare => uptoBulkAll elems + uptoBulkAll spare + 1
  | .agg parts => uptoBulkAll parts + 1
  | .iface _ d => uptoBulk d + 1
  | .map entries => uptoBulkEntries entries + 1
  | .held _ => 1
def uptoBulkAll {H : Type} : List (DataW H) → Nat
  | [] => 0
  | d :: r => uptoBulk d + uptoBulkAll r
def uptoBulkEntries {H : Type} : List (Lit × DataW H) → Nat
  | [] => 0
  | x :: r => uptoBulkEntry x + uptoBulkEntries r
def uptoBulkEntry {H : Type} : Lit × DataW H → Nat
  | (.string bytes, d) => bytes.length + uptoBulk d + 1
  | (_, d) => uptoBulk d + 1
 end
def uptoSmall : (H : Type) → List (DataW H) → Bool := fun _ ds => decide (uptoBulkAll ds ≤ 1048576)
def OpenSpec.upto (s : _root_.Go.ChangeSpec) : _root_.Go.OpenSpec := { _root_.Go.OpenSpec.ofChange s with cond := some uptoSmall }

/-- 'chandlerlaw16.LedgerOrder', WHERE WHAT IT READS IS OF BULK AT MOST 1048576: true; the input reads as it did. -/
def ledgerOrderUptoRow : OpenClaim := { program := "ytjlfhfhckomalaa", sum := "f17f01c89cc1b59ab702bc2735c8d8eef61101012af5141cb42943bb50506fe8", func := "chandler/chandlerlaw16.LedgerOrder", spec := "ledgerOrder", unfollowed := true, recurses := true, plainKeys := false, apart := false, narrowed := true }
def LedgerOrderUptoSaid : Prop := ledgerOrderUptoRow.holds Try.pinned (OpenSpec.upto ledgerOrderSpec)

/-- 'chandlerlaw16.LedgerPlays', WHERE WHAT IT READS IS OF BULK AT MOST 1048576: true; the input reads as it did. -/
def ledgerPlaysUptoRow : OpenClaim := { program := "ytjlfhfhckomalaa", sum := "f17f01c89cc1b59ab702bc2735c8d8eef61101012af5141cb42943bb50506fe8", func := "chandler/chandlerlaw16.LedgerPlays", spec := "ledgerPlays", unfollowed := true, recurses := true, plainKeys := false, apart := false, narrowed := true }
def LedgerPlaysUptoSaid : Prop := ledgerPlaysUptoRow.holds Try.pinned (OpenSpec.upto ledgerPlaysSpec)

/-- 'chandlerlaw16.LedgerBack', WHERE WHAT IT READS IS OF BULK AT MOST 1048576: true; the input reads as it did. -/
def ledgerBackUptoRow : OpenClaim := { program := "ytjlfhfhckomalaa", sum := "f17f01c89cc1b59ab702bc2735c8d8eef61101012af5141cb42943bb50506fe8", func := "chandler/chandlerlaw16.LedgerBack", spec := "ledgerBack", unfollowed := true, recurses := true, plainKeys := false, apart := false, narrowed := true }
def LedgerBackUptoSaid : Prop := ledgerBackUptoRow.holds Try.pinned (OpenSpec.upto ledgerBackSpec)

/-- 'chandlerlaw16.LedgerRefused', WHERE WHAT IT READS IS OF BULK AT MOST 1048576: true; the input reads as it did. -/
def ledgerRefusedUptoRow : OpenClaim := { program := "ytjlfhfhckomalaa", sum := "f17f01c89cc1b59ab702bc2735c8d8eef61101012af5141cb42943bb50506fe8", func := "chandler/chandlerlaw16.LedgerRefused", spec := "ledgerRefused", unfollowed := true, recurses := true, plainKeys := false, apart := false, narrowed := true }
def LedgerRefusedUptoSaid : Prop := ledgerRefusedUptoRow.holds Try.pinned (OpenSpec.upto ledgerRefusedSpec)

/-- 'chandlerlaw16.LedgerRestores', WHERE WHAT IT READS IS OF BULK AT MOST 1048576: true; the input reads as it did. -/
def ledgerRestoresUptoRow : OpenClaim := { program := "ytjlfhfhckomalaa", sum := "f17f01c89cc1b59ab702bc2735c8d8eef61101012af5141cb42943bb50506fe8", func := "chandler/chandlerlaw16.LedgerRestores", spec := "ledgerRestores", unfollowed := true, recurses := true, plainKeys := false, apart := false, narrowed := true }
def LedgerRestoresUptoSaid : Prop := ledgerRestoresUptoRow.holds Try.pinned (OpenSpec.upto ledgerRestoresSpec)

/-- 'chandlerlaw16.LedgerBalances', WHERE WHAT IT READS IS OF BULK AT MOST 1048576: true; the input reads as it did. -/
def ledgerBalancesUptoRow : OpenClaim := { program := "ytjlfhfhckomalaa", sum := "f17f01c89cc1b59ab702bc2735c8d8eef61101012af5141cb42943bb50506fe8", func := "chandler/chandlerlaw16.LedgerBalances", spec := "ledgerBalances", unfollowed := true, recurses := true, plainKeys := false, apart := false, narrowed := true }
def LedgerBalancesUptoSaid : Prop := ledgerBalancesUptoRow.holds Try.pinned (OpenSpec.upto ledgerBalancesSpec)

end Rows
end Go.Proofs.Ytjlfhfhckomalaa

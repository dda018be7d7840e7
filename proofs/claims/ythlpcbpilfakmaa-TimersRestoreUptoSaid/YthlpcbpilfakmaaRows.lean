/-
  No cell of these rows narrows 'for every input' (looked for: loops, veiled, ifaces, maps, wideKeys, modest, calm, conditions, laid).
  DERIVED. THE GIVEN ROWS OF THIS SEAT. 6 by the template 'for every input the law returns true; each argument reads behind the call as it read before'; 0 by the template 'total and deterministic' (their statements: YthlpcbpilfakmaaTotals.lean).
  GIVEN WITH THE SEED: the statements are not yours to turn. If you find one false, say at which input.
  Laid BY PROGRAM, IN A SANDBOX (cutbox-rows.mjs): the forced cells as the released guide's own fill.sh prints them over the translation fb005eb0a3c905b3… (all of the seat's roots in one cut). By AI agents, Wed Nov 11 2026. No macro, syntax, notation, axiom, sorry.
-/
import Derived.Test.YthlpcbpilfakmaaChecked
import GoSem.Claim
import GoSem.ClaimJoined
import GoSem.ClaimMapViews
import Derived.JoinedTies
import Derived.KernelRfl
namespace Go.Proofs.Ythlpcbpilfakmaa
/- THE CELL 'sum', in the pinned program and in every row, IS THE sha256 OF THE DUMP (.gsa) THAT YthlpcbpilfakmaaProg.lean LOADS. Nothing in Lean hashes anything: it is a label: what it is worth is what the hold of that sum in a sandbox is worth. -/
noncomputable def Try.pinned : Pinned := { name := "ythlpcbpilfakmaa", sum := "fb005eb0a3c905b3400f2e7e5a496fae45b15980af554df3a2045afb0737be76", checked := Try.checked }
namespace Rows
def none {H : Type} : Left H := { results := [], args := [] }

/-- 'chandlerlaw09.TimersPlay': WHATEVER THE INPUT: true; the input reads as it did. -/
def timersPlaySpec : ChangeSpec := { name := "timersPlay", fn := fun _ => fun
  | [d] => { results := [.lit (.bool true)], args := [d] }
  | _ => none }
def timersPlayRow : OpenClaim := { program := "ythlpcbpilfakmaa", sum := "fb005eb0a3c905b3400f2e7e5a496fae45b15980af554df3a2045afb0737be76", func := "chandler/chandlerlaw09.TimersPlay", spec := "timersPlay", unfollowed := true, recurses := true, plainKeys := false, apart := false }
def TimersPlaySaid : Prop := timersPlayRow.holds Try.pinned (OpenSpec.ofChange timersPlaySpec)

/-- ITS FALSE NEIGHBOUR: 'it returns false'. Refute it at one input. -/
def timersPlayWrong : ChangeSpec := { name := "timersPlay", fn := fun _ => fun
  | [d] => { results := [.lit (.bool false)], args := [d] }
  | _ => none }
def TimersPlayWrongFalsely : Prop := timersPlayRow.holds Try.pinned (OpenSpec.ofChange timersPlayWrong)

/-- 'chandlerlaw09.TimersFire': WHATEVER THE INPUT: true; the input reads as it did. -/
def timersFireSpec : ChangeSpec := { name := "timersFire", fn := fun _ => fun
  | [d1, d2] => { results := [.lit (.bool true)], args := [d1, d2] }
  | _ => none }
def timersFireRow : OpenClaim := { program := "ythlpcbpilfakmaa", sum := "fb005eb0a3c905b3400f2e7e5a496fae45b15980af554df3a2045afb0737be76", func := "chandler/chandlerlaw09.TimersFire", spec := "timersFire", unfollowed := true, recurses := true, plainKeys := false, apart := false }
def TimersFireSaid : Prop := timersFireRow.holds Try.pinned (OpenSpec.ofChange timersFireSpec)

/-- ITS FALSE NEIGHBOUR: 'it returns false'. Refute it at one input. -/
def timersFireWrong : ChangeSpec := { name := "timersFire", fn := fun _ => fun
  | [d1, d2] => { results := [.lit (.bool false)], args := [d1, d2] }
  | _ => none }
def TimersFireWrongFalsely : Prop := timersFireRow.holds Try.pinned (OpenSpec.ofChange timersFireWrong)

/-- 'chandlerlaw09.TimersOnce': WHATEVER THE INPUT: true; the input reads as it did. -/
def timersOnceSpec : ChangeSpec := { name := "timersOnce", fn := fun _ => fun
  | [d] => { results := [.lit (.bool true)], args := [d] }
  | _ => none }
def timersOnceRow : OpenClaim := { program := "ythlpcbpilfakmaa", sum := "fb005eb0a3c905b3400f2e7e5a496fae45b15980af554df3a2045afb0737be76", func := "chandler/chandlerlaw09.TimersOnce", spec := "timersOnce", unfollowed := true, recurses := true, plainKeys := false, apart := false }
def TimersOnceSaid : Prop := timersOnceRow.holds Try.pinned (OpenSpec.ofChange timersOnceSpec)

/-- ITS FALSE NEIGHBOUR: 'it returns false'. Refute it at one input. -/
def timersOnceWrong : ChangeSpec := { name := "timersOnce", fn := fun _ => fun
  | [d] => { results := [.lit (.bool false)], args := [d] }
  | _ => none }
def TimersOnceWrongFalsely : Prop := timersOnceRow.holds Try.pinned (OpenSpec.ofChange timersOnceWrong)

/-- 'chandlerlaw09.TimersReady': WHATEVER THE INPUT: true; the input reads as it did. -/
def timersReadySpec : ChangeSpec := { name := "timersReady", fn := fun _ => fun
  | [d1, d2, d3] => { results := [.lit (.bool true)], args := [d1, d2, d3] }
  | _ => none }
def timersReadyRow : OpenClaim := { program := "ythlpcbpilfakmaa", sum := "fb005eb0a3c905b3400f2e7e5a496fae45b15980af554df3a2045afb0737be76", func := "chandler/chandlerlaw09.TimersReady", spec := "timersReady", unfollowed := true, recurses := true, plainKeys := false, apart := false }
def TimersReadySaid : Prop := timersReadyRow.holds Try.pinned (OpenSpec.ofChange timersReadySpec)

/-- ITS FALSE NEIGHBOUR: 'it returns false'. Refute it at one input. -/
def timersReadyWrong : ChangeSpec := { name := "timersReady", fn := fun _ => fun
  | [d1, d2, d3] => { results := [.lit (.bool false)], args := [d1, d2, d3] }
  | _ => none }
def TimersReadyWrongFalsely : Prop := timersReadyRow.holds Try.pinned (OpenSpec.ofChange timersReadyWrong)

/-- 'chandlerlaw09.TimersRestore': WHATEVER THE INPUT: true; the input reads as it did. -/
def timersRestoreSpec : ChangeSpec := { name := "timersRestore", fn := fun _ => fun
  | [d1, d2] => { results := [.lit (.bool true)], args := [d1, d2] }
  | _ => none }
def timersRestoreRow : OpenClaim := { program := "ythlpcbpilfakmaa", sum := "fb005eb0a3c905b3400f2e7e5a496fae45b15980af554df3a2045afb0737be76", func := "chandler/chandlerlaw09.TimersRestore", spec := "timersRestore", unfollowed := true, recurses := true, plainKeys := false, apart := false }
def TimersRestoreSaid : Prop := timersRestoreRow.holds Try.pinned (OpenSpec.ofChange timersRestoreSpec)

/-- ITS FALSE NEIGHBOUR: 'it returns false'. Refute it at one input. -/
def timersRestoreWrong : ChangeSpec := { name := "timersRestore", fn := fun _ => fun
  | [d1, d2] => { results := [.lit (.bool false)], args := [d1, d2] }
  | _ => none }
def TimersRestoreWrongFalsely : Prop := timersRestoreRow.holds Try.pinned (OpenSpec.ofChange timersRestoreWrong)

/-- 'chandlerlaw09.TimersShuffled': WHATEVER THE INPUT: true; the input reads as it did. -/
def timersShuffledSpec : ChangeSpec := { name := "timersShuffled", fn := fun _ => fun
  | [d] => { results := [.lit (.bool true)], args := [d] }
  | _ => none }
def timersShuffledRow : OpenClaim := { program := "ythlpcbpilfakmaa", sum := "fb005eb0a3c905b3400f2e7e5a496fae45b15980af554df3a2045afb0737be76", func := "chandler/chandlerlaw09.TimersShuffled", spec := "timersShuffled", unfollowed := true, recurses := true, plainKeys := false, apart := false }
def TimersShuffledSaid : Prop := timersShuffledRow.holds Try.pinned (OpenSpec.ofChange timersShuffledSpec)

/-- ITS FALSE NEIGHBOUR: 'it returns false'. Refute it at one input. -/
def timersShuffledWrong : ChangeSpec := { name := "timersShuffled", fn := fun _ => fun
  | [d] => { results := [.lit (.bool false)], args := [d] }
  | _ => none }
def TimersShuffledWrongFalsely : Prop := timersShuffledRow.holds Try.pinned (OpenSpec.ofChange timersShuffledWrong)

/- THE SECOND FORM. 'bulk': how many values and letters a reading holds, each counted each time it is reached (what is shared counts as often as it is met; a slice's spare places count too). A statement '..UptoSaid' is the law's where the arguments, and the package variables that the reading takes, are together of bulk at most 1048576: NARROWER than '..Said'. Prove '..Said' where nothing that the law and all that it calls make is longer than what came in: it says more and counts as full. Else prove '..UptoSaid'. A law counts once. -/
mutual
def uptoBulk {H : Type} : DataW H → Nat
  | .lit (.string bytes) => bytes.length + 1
  | .lit _ => 1
  | .nil => 1
  | .ptr d => uptoBulk d + 1
  | .slice elems spare => uptoBulkAll elems + uptoBulkAll spare + 1
  | .agg parts => uptoBulkAll parts + 1
  | .iface _ d => uptoBulk d + 1
  | .map entries => uptoBulkEntries entries + 1
  | .held _ => 1
def uptoBulkAll {H : Type} : List (DataW H) → Nat
  | [] => 0
  | d :: r => uptoBulk d + uptoBulkAll r
def uptoBulkEntries {H : Type} : List (Lit × DataW H) → Nat
  | [] => 0
  | x :: r => uptoBulkEntry x + uptoBulkEntries r
def uptoBulkEntry {H : Type} : Lit × DataW H → Nat
  | (.string bytes, d) => bytes.length + uptoBulk d + 1
  | (_, d) => uptoBulk d + 1
 end
def uptoSmall : (H : Type) → List (DataW H) → Bool := fun _ ds => decide (uptoBulkAll ds ≤ 1048576)
def OpenSpec.upto (s : _root_.Go.ChangeSpec) : _root_.Go.OpenSpec := { _root_.Go.OpenSpec.ofChange s with cond := some uptoSmall }

/-- 'chandlerlaw09.TimersPlay', WHERE WHAT IT READS IS OF BULK AT MOST 1048576: true; the input reads as it did. -/
def timersPlayUptoRow : OpenClaim := { program := "ythlpcbpilfakmaa", sum := "fb005eb0a3c905b3400f2e7e5a496fae45b15980af554df3a2045afb0737be76", func := "chandler/chandlerlaw09.TimersPlay", spec := "timersPlay", unfollowed := true, recurses := true, plainKeys := false, apart := false, narrowed := true }
def TimersPlayUptoSaid : Prop := timersPlayUptoRow.holds Try.pinned (OpenSpec.upto timersPlaySpec)

/-- 'chandlerlaw09.TimersFire', WHERE WHAT IT READS IS OF BULK AT MOST 1048576: true; the input reads as it did. -/
def timersFireUptoRow : OpenClaim := { program := "ythlpcbpilfakmaa", sum := "fb005eb0a3c905b3400f2e7e5a496fae45b15980af554df3a2045afb0737be76", func := "chandler/chandlerlaw09.TimersFire", spec := "timersFire", unfollowed := true, recurses := true, plainKeys := false, apart := false, narrowed := true }
def TimersFireUptoSaid : Prop := timersFireUptoRow.holds Try.pinned (OpenSpec.upto timersFireSpec)

/-- 'chandlerlaw09.TimersOnce', WHERE WHAT IT READS IS OF BULK AT MOST 1048576: true; the input reads as it did. -/
def timersOnceUptoRow : OpenClaim := { program := "ythlpcbpilfakmaa", sum := "fb005eb0a3c905b3400f2e7e5a496fae45b15980af554df3a2045afb0737be76", func := "chandler/chandlerlaw09.TimersOnce", spec := "timersOnce", unfollowed := true, recurses := true, plainKeys := false, apart := false, narrowed := true }
def TimersOnceUptoSaid : Prop := timersOnceUptoRow.holds Try.pinned (OpenSpec.upto timersOnceSpec)

/-- 'chandlerlaw09.TimersReady', WHERE WHAT IT READS IS OF BULK AT MOST 1048576: true; the input reads as it did. -/
def timersReadyUptoRow : OpenClaim := { program := "ythlpcbpilfakmaa", sum := "fb005eb0a3c905b3400f2e7e5a496fae45b15980af554df3a2045afb0737be76", func := "chandler/chandlerlaw09.TimersReady", spec := "timersReady", unfollowed := true, recurses := true, plainKeys := false, apart := false, narrowed := true }
def TimersReadyUptoSaid : Prop := timersReadyUptoRow.holds Try.pinned (OpenSpec.upto timersReadySpec)

/-- 'chandlerlaw09.TimersRestore', WHERE WHAT IT READS IS OF BULK AT MOST 1048576: true; the input reads as it did. -/
def timersRestoreUptoRow : OpenClaim := { program := "ythlpcbpilfakmaa", sum := "fb005eb0a3c905b3400f2e7e5a496fae45b15980af554df3a2045afb0737be76", func := "chandler/chandlerlaw09.TimersRestore", spec := "timersRestore", unfollowed := true, recurses := true, plainKeys := false, apart := false, narrowed := true }
def TimersRestoreUptoSaid : Prop := timersRestoreUptoRow.holds Try.pinned (OpenSpec.upto timersRestoreSpec)

/-- 'chandlerlaw09.TimersShuffled', WHERE WHAT IT READS IS OF BULK AT MOST 1048576: true; the input reads as it did. -/
def timersShuffledUptoRow : OpenClaim := { program := "ythlpcbpilfakmaa", sum := "fb005eb0a3c905b3400f2e7e5a496fae45b15980af554df3a2045afb0737be76", func := "chandler/chandlerlaw09.TimersShuffled", spec := "timersShuffled", unfollowed := true, recurses := true, plainKeys := false, apart := false, narrowed := true }
def TimersShuffledUptoSaid : Prop := timersShuffledUptoRow.holds Try.pinned (OpenSpec.upto timersShuffledSpec)

end Rows
end Go.Proofs.Ythlpcbpilfakmaa

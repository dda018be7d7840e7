/-
  No cell of these rows narrows 'for every input' (looked for: loops, veiled, ifaces, maps, wideKeys, modest, calm, conditions, laid).
  DERIVED. THE GIVEN ROWS OF THIS SEAT. 6 by the template 'for every input the law returns true; each argument reads behind the call as it read before'; 0 by the template 'total and deterministic' (their statements: YtidjkigkfefojaaTotals.lean).
  GIVEN WITH THE SEED: the statements are not yours to turn. If you find one false, say at which input.
  Laid BY PROGRAM, IN A SANDBOX (cutbox-rows.mjs): the forced cells as the released guide's own fill.sh prints them over the translation a75119b840130b56… (all of the seat's roots in one cut). By AI agents, Wed Nov 11 2026. No macro, syntax, notation, axiom, sorry.
-/
import Derived.Test.YtidjkigkfefojaaChecked
import GoSem.Claim
import GoSem.ClaimJoined
import GoSem.ClaimMapViews
import Derived.JoinedTies
import Derived.KernelRfl
namespace Go.Proofs.Ytidjkigkfefojaa
/- THE CELL 'sum', in the pinned program and in every row, IS THE sha256 OF THE DUMP (.gsa) THAT YtidjkigkfefojaaProg.lean LOADS. Nothing in Lean hashes anything: it is a label: what it is worth is what the hold of that sum in a sandbox is worth. -/
noncomputable def Try.pinned : Pinned := { name := "ytidjkigkfefojaa", sum := "a75119b840130b561f9073da8bac573f35cf776f60530d0313ec14f565039644", checked := Try.checked }
namespace Rows
def none {H : Type} : Left H := { results := [], args := [] }

/-- 'chandlerlaw08.InboxOnce': WHATEVER THE INPUT: true; the input reads as it did. -/
def inboxOnceSpec : ChangeSpec := { name := "inboxOnce", fn := fun _ => fun
  | [d1, d2] => { results := [.lit (.bool true)], args := [d1, d2] }
  | _ => none }
def inboxOnceRow : OpenClaim := { program := "ytidjkigkfefojaa", sum := "a75119b840130b561f9073da8bac573f35cf776f60530d0313ec14f565039644", func := "chandler/chandlerlaw08.InboxOnce", spec := "inboxOnce", plainKeys := false, apart := false }
def InboxOnceSaid : Prop := inboxOnceRow.holds Try.pinned (OpenSpec.ofChange inboxOnceSpec)

/-- ITS FALSE NEIGHBOUR: 'it returns false'. Refute it at one input. -/
def inboxOnceWrong : ChangeSpec := { name := "inboxOnce", fn := fun _ => fun
  | [d1, d2] => { results := [.lit (.bool false)], args := [d1, d2] }
  | _ => none }
def InboxOnceWrongFalsely : Prop := inboxOnceRow.holds Try.pinned (OpenSpec.ofChange inboxOnceWrong)

/-- 'chandlerlaw08.InboxAlone': WHATEVER THE INPUT: true; the input reads as it did. -/
def inboxAloneSpec : ChangeSpec := { name := "inboxAlone", fn := fun _ => fun
  | [d1, d2, d3] => { results := [.lit (.bool true)], args := [d1, d2, d3] }
  | _ => none }
def inboxAloneRow : OpenClaim := { program := "ytidjkigkfefojaa", sum := "a75119b840130b561f9073da8bac573f35cf776f60530d0313ec14f565039644", func := "chandler/chandlerlaw08.InboxAlone", spec := "inboxAlone", plainKeys := false, apart := false }
def InboxAloneSaid : Prop := inboxAloneRow.holds Try.pinned (OpenSpec.ofChange inboxAloneSpec)

/-- ITS FALSE NEIGHBOUR: 'it returns false'. Refute it at one input. -/
def inboxAloneWrong : ChangeSpec := { name := "inboxAlone", fn := fun _ => fun
  | [d1, d2, d3] => { results := [.lit (.bool false)], args := [d1, d2, d3] }
  | _ => none }
def InboxAloneWrongFalsely : Prop := inboxAloneRow.holds Try.pinned (OpenSpec.ofChange inboxAloneWrong)

/-- 'chandlerlaw08.InboxPlays': WHATEVER THE INPUT: true; the input reads as it did. -/
def inboxPlaysSpec : ChangeSpec := { name := "inboxPlays", fn := fun _ => fun
  | [d] => { results := [.lit (.bool true)], args := [d] }
  | _ => none }
def inboxPlaysRow : OpenClaim := { program := "ytidjkigkfefojaa", sum := "a75119b840130b561f9073da8bac573f35cf776f60530d0313ec14f565039644", func := "chandler/chandlerlaw08.InboxPlays", spec := "inboxPlays", unfollowed := true, recurses := true, plainKeys := false, apart := false }
def InboxPlaysSaid : Prop := inboxPlaysRow.holds Try.pinned (OpenSpec.ofChange inboxPlaysSpec)

/-- ITS FALSE NEIGHBOUR: 'it returns false'. Refute it at one input. -/
def inboxPlaysWrong : ChangeSpec := { name := "inboxPlays", fn := fun _ => fun
  | [d] => { results := [.lit (.bool false)], args := [d] }
  | _ => none }
def InboxPlaysWrongFalsely : Prop := inboxPlaysRow.holds Try.pinned (OpenSpec.ofChange inboxPlaysWrong)

/-- 'chandlerlaw08.InboxKnown': WHATEVER THE INPUT: true; the input reads as it did. -/
def inboxKnownSpec : ChangeSpec := { name := "inboxKnown", fn := fun _ => fun
  | [d1, d2, d3] => { results := [.lit (.bool true)], args := [d1, d2, d3] }
  | _ => none }
def inboxKnownRow : OpenClaim := { program := "ytidjkigkfefojaa", sum := "a75119b840130b561f9073da8bac573f35cf776f60530d0313ec14f565039644", func := "chandler/chandlerlaw08.InboxKnown", spec := "inboxKnown", unfollowed := true, recurses := true, plainKeys := false, apart := false }
def InboxKnownSaid : Prop := inboxKnownRow.holds Try.pinned (OpenSpec.ofChange inboxKnownSpec)

/-- ITS FALSE NEIGHBOUR: 'it returns false'. Refute it at one input. -/
def inboxKnownWrong : ChangeSpec := { name := "inboxKnown", fn := fun _ => fun
  | [d1, d2, d3] => { results := [.lit (.bool false)], args := [d1, d2, d3] }
  | _ => none }
def InboxKnownWrongFalsely : Prop := inboxKnownRow.holds Try.pinned (OpenSpec.ofChange inboxKnownWrong)

/-- 'chandlerlaw08.InboxRestores': WHATEVER THE INPUT: true; the input reads as it did. -/
def inboxRestoresSpec : ChangeSpec := { name := "inboxRestores", fn := fun _ => fun
  | [d1, d2] => { results := [.lit (.bool true)], args := [d1, d2] }
  | _ => none }
def inboxRestoresRow : OpenClaim := { program := "ytidjkigkfefojaa", sum := "a75119b840130b561f9073da8bac573f35cf776f60530d0313ec14f565039644", func := "chandler/chandlerlaw08.InboxRestores", spec := "inboxRestores", unfollowed := true, recurses := true, plainKeys := false, apart := false }
def InboxRestoresSaid : Prop := inboxRestoresRow.holds Try.pinned (OpenSpec.ofChange inboxRestoresSpec)

/-- ITS FALSE NEIGHBOUR: 'it returns false'. Refute it at one input. -/
def inboxRestoresWrong : ChangeSpec := { name := "inboxRestores", fn := fun _ => fun
  | [d1, d2] => { results := [.lit (.bool false)], args := [d1, d2] }
  | _ => none }
def InboxRestoresWrongFalsely : Prop := inboxRestoresRow.holds Try.pinned (OpenSpec.ofChange inboxRestoresWrong)

/-- 'chandlerlaw08.InboxLists': WHATEVER THE INPUT: true; the input reads as it did. -/
def inboxListsSpec : ChangeSpec := { name := "inboxLists", fn := fun _ => fun
  | [d] => { results := [.lit (.bool true)], args := [d] }
  | _ => none }
def inboxListsRow : OpenClaim := { program := "ytidjkigkfefojaa", sum := "a75119b840130b561f9073da8bac573f35cf776f60530d0313ec14f565039644", func := "chandler/chandlerlaw08.InboxLists", spec := "inboxLists", unfollowed := true, recurses := true, plainKeys := false, apart := false }
def InboxListsSaid : Prop := inboxListsRow.holds Try.pinned (OpenSpec.ofChange inboxListsSpec)

/-- ITS FALSE NEIGHBOUR: 'it returns false'. Refute it at one input. -/
def inboxListsWrong : ChangeSpec := { name := "inboxLists", fn := fun _ => fun
  | [d] => { results := [.lit (.bool false)], args := [d] }
  | _ => none }
def InboxListsWrongFalsely : Prop := inboxListsRow.holds Try.pinned (OpenSpec.ofChange inboxListsWrong)

/- THE SECOND FORM. 'bulk': how many values and letters a reading holds, each counted each time it is reached (what is shared counts as often as it is met; a slice's spare places count too). A statement '..UptoSaid' is the law's where the arguments, and the package variables that the reading takes, are together of bulk at most 1048576: NARROWER than '..Said'. Prove '..Said' where nothing that the law and all that it calls make is longer than what came in: it says more and counts as full. Else prove '..UptoSaid'. A law counts once. -/
mutual
def uptoBulk {H : Type} : DataW H → Nat
  | .lit (.string bytes) => bytes.length + 1
  | .lit _ => 1
  | .nil => 1
  | .ptr d => uptoBulk d + 1
  | .slice elems spare => uptoBulkAll elems + uptoBulkAll spare + 1
  | .agg parts => uptoBulkAll parts + 1
  | .iface _ d => uptoBulk d + 1
  | .map entries => uptoBulkEntries entries + 1
  | .held _ => 1
def uptoBulkAll {H : Type} : List (DataW H) → Nat
  | [] => 0
  | d :: r => uptoBulk d + uptoBulkAll r
def uptoBulkEntries {H : Type} : List (Lit × DataW H) → Nat
  | [] => 0
  | x :: r => uptoBulkEntry x + uptoBulkEntries r
def uptoBulkEntry {H : Type} : Lit × DataW H → Nat
  | (.string bytes, d) => bytes.length + uptoBulk d + 1
  | (_, d) => uptoBulk d + 1
 end
def uptoSmall : (H : Type) → List (DataW H) → Bool := fun _ ds => decide (uptoBulkAll ds ≤ 1048576)
def OpenSpec.upto (s : _root_.Go.ChangeSpec) : _root_.Go.OpenSpec := { _root_.Go.OpenSpec.ofChange s with cond := some uptoSmall }

/-- 'chandlerlaw08.InboxOnce', WHERE WHAT IT READS IS OF BULK AT MOST 1048576: true; the input reads as it did. -/
def inboxOnceUptoRow : OpenClaim := { program := "ytidjkigkfefojaa", sum := "a75119b840130b561f9073da8bac573f35cf776f60530d0313ec14f565039644", func := "chandler/chandlerlaw08.InboxOnce", spec := "inboxOnce", plainKeys := false, apart := false, narrowed := true }
def InboxOnceUptoSaid : Prop := inboxOnceUptoRow.holds Try.pinned (OpenSpec.upto inboxOnceSpec)

/-- 'chandlerlaw08.InboxAlone', WHERE WHAT IT READS IS OF BULK AT MOST 1048576: true; the input reads as it did. -/
def inboxAloneUptoRow : OpenClaim := { program := "ytidjkigkfefojaa", sum := "a75119b840130b561f9073da8bac573f35cf776f60530d0313ec14f565039644", func := "chandler/chandlerlaw08.InboxAlone", spec := "inboxAlone", plainKeys := false, apart := false, narrowed := true }
def InboxAloneUptoSaid : Prop := inboxAloneUptoRow.holds Try.pinned (OpenSpec.upto inboxAloneSpec)

/-- 'chandlerlaw08.InboxPlays', WHERE WHAT IT READS IS OF BULK AT MOST 1048576: true; the input reads as it did. -/
def inboxPlaysUptoRow : OpenClaim := { program := "ytidjkigkfefojaa", sum := "a75119b840130b561f9073da8bac573f35cf776f60530d0313ec14f565039644", func := "chandler/chandlerlaw08.InboxPlays", spec := "inboxPlays", unfollowed := true, recurses := true, plainKeys := false, apart := false, narrowed := true }
def InboxPlaysUptoSaid : Prop := inboxPlaysUptoRow.holds Try.pinned (OpenSpec.upto inboxPlaysSpec)

/-- 'chandlerlaw08.InboxKnown', WHERE WHAT IT READS IS OF BULK AT MOST 1048576: true; the input reads as it did. -/
def inboxKnownUptoRow : OpenClaim := { program := "ytidjkigkfefojaa", sum := "a75119b840130b561f9073da8bac573f35cf776f60530d0313ec14f565039644", func := "chandler/chandlerlaw08.InboxKnown", spec := "inboxKnown", unfollowed := true, recurses := true, plainKeys := false, apart := false, narrowed := true }
def InboxKnownUptoSaid : Prop := inboxKnownUptoRow.holds Try.pinned (OpenSpec.upto inboxKnownSpec)

/-- 'chandlerlaw08.InboxRestores', WHERE WHAT IT READS IS OF BULK AT MOST 1048576: true; the input reads as it did. -/
def inboxRestoresUptoRow : OpenClaim := { program := "ytidjkigkfefojaa", sum := "a75119b840130b561f9073da8bac573f35cf776f60530d0313ec14f565039644", func := "chandler/chandlerlaw08.InboxRestores", spec := "inboxRestores", unfollowed := true, recurses := true, plainKeys := false, apart := false, narrowed := true }
def InboxRestoresUptoSaid : Prop := inboxRestoresUptoRow.holds Try.pinned (OpenSpec.upto inboxRestoresSpec)

/-- 'chandlerlaw08.InboxLists', WHERE WHAT IT READS IS OF BULK AT MOST 1048576: true; the input reads as it did. -/
def inboxListsUptoRow : OpenClaim := { program := "ytidjkigkfefojaa", sum := "a75119b840130b561f9073da8bac573f35cf776f60530d0313ec14f565039644", func := "chandler/chandlerlaw08.InboxLists", spec := "inboxLists", unfollowed := true, recurses := true, plainKeys := false, apart := false, narrowed := true }
def InboxListsUptoSaid : Prop := inboxListsUptoRow.holds Try.pinned (OpenSpec.upto inboxListsSpec)

end Rows
end Go.Proofs.Ytidjkigkfefojaa

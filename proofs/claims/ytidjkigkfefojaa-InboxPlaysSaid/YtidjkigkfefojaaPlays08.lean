/-
  The walk of InboxPlays.
-/
import Derived.Test.YtidjkigkfefojaaPlay08
namespace Go.Proofs.Ytidjkigkfefojaa
open Go.RowKit Go.WideShapes Go.ChangeShapes Go.ChangeAt Go.Deep
set_option linter.unusedVariables false

set_option maxRecDepth 100000 in
set_option maxHeartbeats 8000000 in
theorem inboxPlays_walk (hS : SortsAt Try.prog 24 (.func (.func 25) #[] #[]) enE5 5 ltE)
    (l : List Req) (A : Option Addr) (cp : Nat) (w : World) (hR : Rd w A (l.flatMap enR)) (hl : l.length * 40 ≤ 140737488351232) :
    Calls Try.prog 5 #[.slice A l.length cp] w (Law w) := by
  go_enter Try.func5, Try.ntmps5
  go_wp2_with fail
  refine (wakes_any _).mono ?_
  rintro e w1 ⟨rfl, hb⟩
  go_wp2_with fail
  refine (new_some _).mono ?_
  rintro e w2 ⟨X, B, rfl, hB, h, hb1, hltB⟩
  have hwB : w.heap.size ≤ B := Nat.le_trans hb.size hB
  replace hb := bthen hb hb1
  have hXl := h.1.lt
  have hbl : Blk (w2.alloc (.cells #[.slice none 0 0] 43)) w2.heap.size 43 #[.slice none 0 0] := Blk.new _ _ _
  have hI := hid (play_any hS w l A cp hR (base := w2.heap.size + 1) (X := X) (B := B) (R := w2.heap.size) (cap := 0) (A := none) (m := []) (r := []) (w2.alloc (.cells #[.slice none 0 0] 43))
    (h.alloc _) ⟨hbl, World.ownsRow_nil _ _ _ _, Nat.lt_succ_self _⟩ RelM.nil (hb.alloc hb.size _) (by simp) ⟨by omega, by omega, by omega, by omega⟩ hwB hb.size (by have := hb.size; omega) (by simp; omega))
  clear hb1 hB hltB h hb hbl hXl hwB hR hl
  go_wp2_with fail
  refine hI.out.mono ?_
  rintro e w3 ⟨rfl, hb3⟩
  clear hI
  go_wp2_with fail
  go_ret
  exact ⟨by simp, hb3⟩

end Go.Proofs.Ytidjkigkfefojaa

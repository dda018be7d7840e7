/-
  The walks of StockPlays and StockBack.
-/
import Derived.Test.YthfaaimmfdidnaaPlay15
namespace Go.Proofs.Ythfaaimmfdidnaa
open Go.RowKit Go.WideShapes Go.ChangeShapes Go.ChangeAt Go.Deep
set_option linter.unusedVariables false

theorem ref_new (w : World) : IsRef (w.heap.size + 1) (w.alloc (.cells #[.slice none 0 0, .slice none 0 0] 54)) w.heap.size none 0 [] none 0 [] :=
  ⟨Blk.new _ _ _, World.ownsRow_nil _ _ _ _, World.ownsRow_nil _ _ _ _, (fun o ho => by cases ho), Nat.lt_succ_self _⟩

set_option maxRecDepth 100000 in
set_option maxHeartbeats 8000000 in
theorem stockPlays_walk (l : List Opn) (A : Option Addr) (cp : Nat) (w : World) (hR : Rd w A (l.flatMap enOp)) (hok : ∀ x ∈ l, OkOp w x) (hl : l.length * 56 ≤ 140737488351232) :
    Calls Try.prog 5 #[.slice A l.length cp] w (Law w) := by
  have HOK := hid hok
  clear hok
  go_enter Try.func5, Try.ntmps5
  go_wp2_with fail
  refine (wakes_any _).mono ?_
  rintro e w1 ⟨rfl, hb⟩
  go_wp2_with fail
  refine (new_any _).mono ?_
  rintro e w2 ⟨X, BL, BG, rfl, h, hb1⟩
  have hsz := hb.size
  have hsz2 := hb1.size
  replace hb := bthen hb hb1
  have hI := hid (play_any w l A cp hR HOK.out (n0 := w1.heap.size) (base := w2.heap.size + 1) (X := X) (BL := BL) (BG := BG) (R := w2.heap.size) (w2.alloc (.cells #[.slice none 0 0, .slice none 0 0] 54))
    (h.next ((Below.refl _ _).alloc (Nat.le_refl _) _)) GoodB.nil (ref_new w2) RelS.nil (hb.alloc hb.size _) (by simp) ⟨by omega, by omega, by omega⟩ (by simp; omega) (by omega))
  clear hb1 h hb hR hl HOK
  go_wp2_with fail
  refine hI.out.mono ?_
  rintro e w3 ⟨rfl, _, _, _, _, _, _, _, _, _, _, _, _, _, hb3, _⟩
  clear hI
  go_wp2_with fail
  go_ret
  exact ⟨by simp, hb3⟩

end Go.Proofs.Ythfaaimmfdidnaa

/-
  Layer 19: the walk of OrdersPlay.
-/
import Derived.Test.YtdgoifnhlpjnpaaPlay19
namespace Go.Proofs.Ytdgoifnhlpjnpaa
open Go.RowKit Go.WideShapes Go.ChangeShapes Go.ChangeAt Go.Deep
set_option linter.unusedVariables false

theorem ref_new (w : World) : IsRef (w.heap.size + 1) (w.alloc (.cells #[.slice none 0 0, .slice none 0 0] 58)) w.heap.size none 0 [] none 0 [] :=
  ⟨Blk.new _ _ _, World.ownsRow_nil _ _ _ _, World.ownsRow_nil _ _ _ _, (fun o ho => by cases ho), Nat.lt_succ_self _⟩

set_option maxRecDepth 100000 in
set_option maxHeartbeats 8000000 in
theorem ordersPlay_walk (l : List Opn) (A : Option Addr) (cp : Nat) (w : World) (hR : Rd w A (l.flatMap enOp)) (hok : ∀ x ∈ l, OkOp w x) (hl : l.length * 72 ≤ 140737488351232) :
    Calls Try.prog 6 #[.slice A l.length cp] w (Law w) := by
  go_enter Try.func6, Try.ntmps6
  go_wp2_with fail
  refine (wakes_any _).mono ?_
  rintro e w1 ⟨rfl, hb⟩
  go_wp2_with fail
  refine (new_any _).mono ?_
  rintro e w2 ⟨X, BP, BO, rfl, h, hb1⟩
  have hb2 := bthen hb hb1
  have hS : St w w1.heap.size X BP BO [] [] w2 := ⟨h, (fun _ _ hp => by simp [mget] at hp), (fun p hp => by cases hp), hb2, hb.size, hb1.size⟩
  have hwa : Below w2.heap.size w2 (w2.alloc (.cells #[.slice none 0 0, .slice none 0 0] 58)) := (Below.refl _ _).alloc (Nat.le_refl _) _
  have hI := hid (play_any w l A cp hR hok (n0 := w1.heap.size) (base := w2.heap.size + 1) (X := X) (BP := BP) (BO := BO) (R := w2.heap.size) (w2.alloc (.cells #[.slice none 0 0, .slice none 0 0] 58))
    (hS.next hwa) (ref_new w2) RelO.nil (by simp) hb2.size hl)
  clear hb1 h hb hR hl hb2 hS hwa hok
  go_wp2_with fail
  refine hI.out.mono ?_
  rintro e w3 ⟨rfl, hb3⟩
  clear hI
  go_wp2_with fail
  go_ret
  exact ⟨by simp, hb3⟩

end Go.Proofs.Ytdgoifnhlpjnpaa

/-
  The walk of the law BillPosts: every posting is the reference's.
-/
import Derived.Test.YtphkhcndmmbbmaaPostRef
import Derived.Deep.RegionHeld3
namespace Go.Proofs.Ytphkhcndmmbbmaa
open Go.RowKit

theorem same_n (xs : List (Int × Int)) (A B : Option Addr) (c d n : Nat) (w : World) (hn : xs.length = n) (hl : xs.length ≤ 1000000) (hA : Rd w A (xs.flatMap en2)) (hB : Rd w B (xs.flatMap en2)) :
    Calls Try.prog 16 #[.slice A n c, .slice B n d] w (Law w) := by
  subst hn
  exact same_any xs A B c d w hl hA hB

theorem some0_lim {l : List (Int × Int)} (h : l.length ≤ 10) : (some0 l).length ≤ 1000000 := Nat.le_trans (some0_le l) (by omega)

/-- What is known all along: the argument's block, and that nothing old has turned. -/
def Held4 (w : World) (n t a r : Int) (w' : World) : Prop := Blk w' w.heap.size 44 #[.int .i64 n, .int .i64 t, .int .i64 a, .int .i64 r] ∧ Below w.heap.size w w'
theorem Held4.next {w w1 w2 : World} {n t a r : Int} (h : Held4 w n t a r w1) (hb : Below w1.heap.size w1 w2) : Held4 w n t a r w2 := ⟨h.1.next hb, bthen h.2 hb⟩
theorem Held4.kept {w w1 : World} {n t a r : Int} (h : Held4 w n t a r w1) : Below w.heap.size w w1 := h.2
theorem Held4.cells {w w1 : World} {n t a r : Int} (h : Held4 w n t a r w1) : w1.cell? ⟨w.heap.size, 0, none⟩ = some (.int .i64 n) ∧ w1.cell? ⟨w.heap.size, 1, none⟩ = some (.int .i64 t) ∧ w1.cell? ⟨w.heap.size, 2, none⟩ = some (.int .i64 a) ∧ w1.cell? ⟨w.heap.size, 3, none⟩ = some (.int .i64 r) :=
  ⟨by rw [h.1.cell]; rfl, by rw [h.1.cell]; rfl, by rw [h.1.cell]; rfl, by rw [h.1.cell]; rfl⟩

set_option maxHeartbeats 4000000 in
theorem billPosts_walk (x : Quad) (w : World) :
    Calls Try.prog 7 #[.agg (en4 x).toArray] w (Law w) := by
  obtain ⟨n, t, a, r⟩ := x
  show Calls Try.prog 7 #[.agg #[.int .i64 n, .int .i64 t, .int .i64 a, .int .i64 r]] w (Law w)
  have B0 : Held4 w n t a r (w.alloc (.cells #[.int .i64 n, .int .i64 t, .int .i64 a, .int .i64 r] 44)) := ⟨Blk.new _ _ _, (Below.refl _ _).alloc (Nat.le_refl _) _⟩
  obtain ⟨c0, c1, c2, c3⟩ := B0.cells
  generalize hW : w.alloc (.cells #[.int .i64 n, .int .i64 t, .int .i64 a, .int .i64 r] 44) = W at B0 c0 c1 c2 c3
  go_enter Try.func7, Try.ntmps7
  go_wp2_with fail
  have B1 : Held4 w n t a r W.drew := ⟨B0.1, B0.2.drew⟩
  clear hW
  go_region_held3 (fun w' => w'.cell? ⟨w.heap.size, 0, none⟩ = some (.int .i64 n) ∧ w'.cell? ⟨w.heap.size, 1, none⟩ = some (.int .i64 t) ∧ w'.cell? ⟨w.heap.size, 2, none⟩ = some (.int .i64 a) ∧ w'.cell? ⟨w.heap.size, 3, none⟩ = some (.int .i64 r))
    (exact Held4.cells (by assumption))
    (first
      | (go_at_call 11; refine (wakes_any _).mono ?_; rintro e wk ⟨rfl, hb⟩; have := Held4.next (by assumption) hb)
      | (go_at_call 17; refine (invoice_any _ _ _).mono ?_; rintro e wk ⟨A, cp, rfl, hR, hb⟩; have := Held4.next (by assumption) hb)
      | (go_at_call 19; refine (memo_any _ _ _ _ _).mono ?_; rintro e wk ⟨A, cp, rfl, hR, hb⟩; have := Held4.next (by assumption) hb)
      | (go_at_call 12; refine (receipt_any _ _).mono ?_; rintro e wk ⟨A, cp, rfl, hR, hb⟩; have := Held4.next (by assumption) hb)
      | (go_at_call 14; refine (apply_any _ _).mono ?_; rintro e wk ⟨A, cp, rfl, hR, hb⟩; have := Held4.next (by assumption) hb)
      | (go_at_call 13; refine (refund_any _ _).mono ?_; rintro e wk ⟨A, cp, rfl, hR, hb⟩; have := Held4.next (by assumption) hb)
      | (go_at_call 15; refine (loss_any _ _).mono ?_; rintro e wk ⟨A, cp, rfl, hR, hb⟩; have := Held4.next (by assumption) hb)
      | (go_at_call 18; refine (rinvoice_any _ _ _).mono ?_; rintro e wk ⟨B, cq, rfl, hQ, hb⟩; have := Held4.next (by assumption) hb; have hS := Rd.below (by assumption) hb)
      | (go_at_call 20; refine (rmemo_any _ _ _ _ _).mono ?_; rintro e wk ⟨B, cq, rfl, hQ, hb⟩; have := Held4.next (by assumption) hb; have hS := Rd.below (by assumption) hb)
      | (go_at_call 21; refine (rmove_any _ _ _ _).mono ?_; rintro e wk ⟨B, cq, rfl, hQ, hb⟩; have := Held4.next (by assumption) hb; have hS := Rd.below (by assumption) hb)
      | (go_at_call 16; refine (same_n _ _ _ _ _ _ _ rfl (some0_lim (by simp [invoiceL, memoL, moveL])) (by assumption) (by assumption)).mono ?_; rintro e wk ⟨rfl, hb⟩; have := Held4.next (by assumption) hb))
  all_goals
    go_wp2
    go_ret
    exact ⟨rfl, Held4.kept (by assumption)⟩

end Go.Proofs.Ytphkhcndmmbbmaa

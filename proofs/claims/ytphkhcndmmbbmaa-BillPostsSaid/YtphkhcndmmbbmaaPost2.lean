/-
  Contracts of bill's six postings and of wakes.
-/
import Derived.Test.YtphkhcndmmbbmaaPost
import Derived.Test.YtphkhcndmmbbmaaBillRef
namespace Go.Proofs.Ytphkhcndmmbbmaa
open Go.RowKit

theorem Rd.new (w : World) (cs : Array Value) (t : TypeId) : Rd (w.alloc (.cells cs t)) (some ⟨w.heap.size, 0, none⟩) cs.toList := by
  refine .inr ⟨w.heap.size, 0, rfl, by simp, fun j u hu => ?_⟩
  rw [cell_of_row _ _ _ cs t (0, 0) (heap_alloc_new w _)]
  simpa using hu

theorem Rd.new' (w : World) (cs : Array Value) (t : TypeId) (n : Nat) (h : n = w.heap.size) : Rd (w.alloc (.cells cs t)) (some ⟨n, 0, none⟩) cs.toList := by
  subst h; exact Rd.new w cs t

/-- What a posting leaves: a slice that reads as these entries. -/
def Posts (es : List (Int × Int)) (w : World) (e : Ending) (w' : World) : Prop :=
  ∃ A cap, e = .returned (.slice A (some0 es).length cap) ∧ Rd w' A ((some0 es).flatMap en2) ∧ Below w.heap.size w w'

theorem posting_n (es : List (Int × Int)) (n : Nat) (A : Option Addr) (cap : Nat) (w : World) (h : es.length = n) (hn : n ≤ 100) (hL : Rd w A (es.flatMap en2)) :
    Calls Try.prog 23 #[.slice A n cap] w (Posts es w) := by
  subst h
  exact posting_any es A cap w hn hL

def moveL (to fr n : Int) : List (Int × Int) := [(to, n), (fr, wrap64 (-n))]
def invoiceL (n t : Int) : List (Int × Int) := [(1, wrap64 (n + t)), (2, wrap64 (-n)), (3, wrap64 (-t))]
def memoL (n t a r : Int) : List (Int × Int) := [(2, n), (3, t), (1, wrap64 (wrap64 (wrap64 (a + r) - n) - t)), (4, wrap64 (-a)), (5, wrap64 (-r))]

theorem Posts.of {es : List (Int × Int)} {w w1 w2 : World} {e : Ending} (h : Posts es w1 e w2) (hb : Below w.heap.size w w1) : Posts es w e w2 := by
  obtain ⟨A, cap, h1, h2, h3⟩ := h
  exact ⟨A, cap, h1, h2, hb.trans (h3.mono hb.size)⟩

set_option maxHeartbeats 400000 in
theorem move_any (to fr n : Int) (w : World) : Calls Try.prog 22 #[.int .i64 to, .int .i64 fr, .int .i64 n] w (Posts (moveL to fr n) w) := by
  go_enter Try.func22, Try.ntmps22
  go_wp2_with fail
  refine (posting_n (moveL to fr n) 2 _ _ _ rfl (by omega) (Rd.new _ _ _)).mono ?_
  rintro e w' ⟨A, cap, rfl, hR, hb⟩
  go_wp2
  go_ret
  exact ⟨A, cap, rfl, hR, ((Below.refl _ _).alloc (Nat.le_refl _) _).trans (hb.mono (by simp))⟩

set_option maxHeartbeats 400000 in
theorem invoice_any (n t : Int) (w : World) : Calls Try.prog 17 #[.int .i64 n, .int .i64 t] w (Posts (invoiceL n t) w) := by
  go_enter Try.func17, Try.ntmps17
  go_wp2_with fail
  refine (posting_n (invoiceL n t) 3 _ _ _ rfl (by omega) (Rd.new _ _ _)).mono ?_
  rintro e w' ⟨A, cap, rfl, hR, hb⟩
  go_wp2
  go_ret
  exact ⟨A, cap, rfl, hR, ((Below.refl _ _).alloc (Nat.le_refl _) _).trans (hb.mono (by simp))⟩

set_option maxHeartbeats 400000 in
theorem memo_any (n t a r : Int) (w : World) : Calls Try.prog 19 #[.int .i64 n, .int .i64 t, .int .i64 a, .int .i64 r] w (Posts (memoL n t a r) w) := by
  go_enter Try.func19, Try.ntmps19
  go_wp2_with fail
  refine (posting_n (memoL n t a r) 5 _ _ _ rfl (by omega) (Rd.new _ _ _)).mono ?_
  rintro e w' ⟨A, cap, rfl, hR, hb⟩
  go_wp2
  go_ret
  exact ⟨A, cap, rfl, hR, ((Below.refl _ _).alloc (Nat.le_refl _) _).trans (hb.mono (by simp))⟩

set_option maxHeartbeats 400000 in
theorem receipt_any (n : Int) (w : World) : Calls Try.prog 12 #[.int .i64 n] w (Posts (moveL 0 4 n) w) := by
  go_enter Try.func12, Try.ntmps12
  go_wp2_with fail
  refine (move_any _ _ _ _).mono ?_
  rintro e w' ⟨A, cap, rfl, hR, hb⟩
  go_wp2
  go_ret
  exact ⟨A, cap, rfl, hR, hb⟩

set_option maxHeartbeats 400000 in
theorem apply_any (n : Int) (w : World) : Calls Try.prog 14 #[.int .i64 n] w (Posts (moveL 4 1 n) w) := by
  go_enter Try.func14, Try.ntmps14
  go_wp2_with fail
  refine (move_any _ _ _ _).mono ?_
  rintro e w' ⟨A, cap, rfl, hR, hb⟩
  go_wp2
  go_ret
  exact ⟨A, cap, rfl, hR, hb⟩

set_option maxHeartbeats 400000 in
theorem refund_any (n : Int) (w : World) : Calls Try.prog 13 #[.int .i64 n] w (Posts (moveL 4 0 n) w) := by
  go_enter Try.func13, Try.ntmps13
  go_wp2_with fail
  refine (move_any _ _ _ _).mono ?_
  rintro e w' ⟨A, cap, rfl, hR, hb⟩
  go_wp2
  go_ret
  exact ⟨A, cap, rfl, hR, hb⟩

set_option maxHeartbeats 400000 in
theorem loss_any (n : Int) (w : World) : Calls Try.prog 15 #[.int .i64 n] w (Posts (moveL 5 1 n) w) := by
  go_enter Try.func15, Try.ntmps15
  go_wp2_with fail
  refine (move_any _ _ _ _).mono ?_
  rintro e w' ⟨A, cap, rfl, hR, hb⟩
  go_wp2
  go_ret
  exact ⟨A, cap, rfl, hR, hb⟩

set_option maxHeartbeats 400000 in
theorem wakes_any (w : World) : Calls Try.prog 11 #[] w (Law w) := by
  go_enter Try.func11, Try.ntmps11
  go_wp2_with fail
  refine (total_any [(3, 25), (1, 13)] _ _ _ (Rd.new _ _ _)).mono ?_
  rintro e w' ⟨rfl, hb⟩
  rw [show netT [(3, 25), (1, 13)] = 88 from by decide, show taxT [(3, 25), (1, 13)] = 18 from by decide, show errT [(3, 25), (1, 13)] = 0 from by decide]
  go_wp2_with fail
  refine (memo_any _ _ _ _ _).mono ?_
  rintro e w2 ⟨A, cap, rfl, hR, hb2⟩
  rw [show (some0 (memoL 100 20 30 0)).length = 4 from by decide +kernel]
  go_wp2
  go_ret
  exact ⟨rfl, (((Below.refl _ _).alloc (Nat.le_refl _) _).trans (hb.mono (by simp))).trans (hb2.mono (by have := hb.size; simp at this; omega))⟩
end Go.Proofs.Ytphkhcndmmbbmaa

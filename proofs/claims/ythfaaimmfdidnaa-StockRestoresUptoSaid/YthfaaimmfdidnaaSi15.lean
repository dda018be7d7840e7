/-
  The stock book: Item, Receive.
-/
import Derived.Test.YthfaaimmfdidnaaSb15
namespace Go.Proofs.Ythfaaimmfdidnaa
open Go.RowKit Go.WideShapes Go.ChangeShapes Go.ChangeAt Go.Deep
set_option linter.unusedVariables false

section
variable {n0 : Nat} {w w' : World} {X BL BG : Nat} {lv : List (Int × Lv)} {gs : List (Int × Gd)}
/-- A level whose numbers leave room for one order more. -/
def LvB (a : Lv) : Prop := (-4000000000000000000 ≤ a.r ∧ a.r ≤ 4000000000000000000) ∧ (-4000000000000000000 ≤ a.h ∧ a.h ≤ 4000000000000000000) ∧ (-4000000000000000000 ≤ a.a ∧ a.a ≤ 4000000000000000000) ∧ (-4000000000000000000 ≤ a.s ∧ a.s ≤ 4000000000000000000) ∧ (-4000000000000000000 ≤ a.t ∧ a.t ≤ 4000000000000000000)
def newLv (g : Nat) (id : Int) : Lv := ⟨g, id, 0, 0, 0, 0, 0⟩

set_option maxRecDepth 100000 in
set_option maxHeartbeats 4000000 in
theorem item_no (h : IsBook n0 w X BL BG lv gs) (id : Int) (hno : ¬ (1 ≤ id ∧ id ≤ 64)) :
    Calls Try.prog 11 #[.pointer (some ⟨X, 0, none⟩), .int .i64 id] w fun e w' => e = .returned (.int .i64 2) ∧ w = w' := by
  rcases (show id < 1 ∨ (1 ≤ id ∧ 64 < id) from by omega) with h1 | ⟨h1, h2⟩
  all_goals
    clear hno
    go_enter Try.func11, Try.ntmps11
    go_wp2_with fail
    go_ret
    exact ⟨rfl, rfl⟩
set_option maxRecDepth 100000 in
set_option maxHeartbeats 4000000 in
theorem item_old (h : IsBook n0 w X BL BG lv gs) (id : Int) (hok : 1 ≤ id ∧ id ≤ 64) {a : Lv} (ha : mget lv id = some a) :
    Calls Try.prog 11 #[.pointer (some ⟨X, 0, none⟩), .int .i64 id] w fun e w' => e = .returned (.int .i64 0) ∧ w = w' := by
  obtain ⟨h1, h2⟩ := hok
  have c0 := h.cellL
  have l1 := h.lookL id
  rw [show ptrL lv id = some ⟨a.g, 0, none⟩ from by unfold ptrL; rw [ha]; rfl] at l1
  clear h ha
  go_enter Try.func11, Try.ntmps11
  go_wp2_with fail
  go_ret
  exact ⟨rfl, rfl⟩
set_option maxRecDepth 100000 in
set_option maxHeartbeats 4000000 in
theorem item_new (h : IsBook n0 w X BL BG lv gs) (hn : n0 ≤ w.heap.size) (id : Int) (hok : 1 ≤ id ∧ id ≤ 64) (ha : mget lv id = none) :
    Calls Try.prog 11 #[.pointer (some ⟨X, 0, none⟩), .int .i64 id] w fun e w' => e = .returned (.int .i64 0) ∧ (∃ g, w.heap.size ≤ g ∧ IsBook n0 w' X BL BG (mset lv id (newLv g id)) gs) ∧ Touch (Own BL BG lv gs) w w' := by
  obtain ⟨h1, h2⟩ := hok
  have c0 := h.cellL
  have lX : X < w.heap.size := h.blk.lt
  have l1 := h.lookL id
  rw [show ptrL lv id = none from by unfold ptrL; rw [ha]; rfl] at l1
  have hz := h.alloc (.cells (enV (newLv w.heap.size id)) 38)
  have hB : Blk (w.alloc (.cells (enV (newLv w.heap.size id)) 38)) w.heap.size 38 (enV (newLv w.heap.size id)) := Blk.new _ _ _
  obtain ⟨w8, hrun, hM8, hg8, hs8⟩ := hz.lvs.store (P := Try.prog) (mt := 71) (et := 75) keyL Try.underlying71 id (newLv w.heap.size id)
  simp only [vLv, kI, enV, newLv] at hrun
  have h8 := hz.addL ha hB (fun p hp e => by have := (h.lc p hp).lt; rw [e] at this; exact absurd this (Nat.lt_irrefl _)) hn hM8 hg8
  have hT : Touch (Own BL BG lv gs) w w8 := (Touch.of_below ((Below.refl _ _).alloc (Nat.le_refl _) (.cells (enV (newLv w.heap.size id)) 38))).then ((Touch.of_grown hg8).mono (fun k hk => (.inl hk : Own BL BG lv gs k)))
  have HF := hid (And.intro h8 hT)
  clear h ha hz hB hM8 hg8 hs8 h8 hT hn
  go_enter Try.func11, Try.ntmps11
  go_wp2_with fail
  go_ret
  exact ⟨rfl, ⟨_, Nat.le_refl _, HF.out.1⟩, HF.out.2⟩

set_option maxRecDepth 100000 in
set_option maxHeartbeats 4000000 in
theorem recv_arg (h : IsBook n0 w X BL BG lv gs) (id q : Int) (hno : ¬ (1 ≤ q ∧ q ≤ 1000000)) :
    Calls Try.prog 12 #[.pointer (some ⟨X, 0, none⟩), .int .i64 id, .int .i64 q] w fun e w' => e = .returned (.int .i64 2) ∧ w = w' := by
  rcases (show q < 1 ∨ (1 ≤ q ∧ 1000000 < q) from by omega) with h1 | ⟨h1, h2⟩
  all_goals
    clear hno
    go_enter Try.func12, Try.ntmps12
    go_wp2_with fail
    go_ret
    exact ⟨rfl, rfl⟩
set_option maxRecDepth 100000 in
set_option maxHeartbeats 4000000 in
theorem recv_none (h : IsBook n0 w X BL BG lv gs) (id q : Int) (hok : 1 ≤ q ∧ q ≤ 1000000) (ha : mget lv id = none) :
    Calls Try.prog 12 #[.pointer (some ⟨X, 0, none⟩), .int .i64 id, .int .i64 q] w fun e w' => e = .returned (.int .i64 70) ∧ w = w' := by
  obtain ⟨h1, h2⟩ := hok
  have c0 := h.cellL
  have l1 := h.lookL id
  rw [show ptrL lv id = none from by unfold ptrL; rw [ha]; rfl] at l1
  clear h ha
  go_enter Try.func12, Try.ntmps12
  go_wp2_with fail
  go_ret
  exact ⟨rfl, rfl⟩
set_option maxRecDepth 100000 in
set_option maxHeartbeats 4000000 in
theorem recv_many (h : IsBook n0 w X BL BG lv gs) (id q : Int) (hok : 1 ≤ q ∧ q ≤ 1000000) {a : Lv} (ha : mget lv id = some a) (hm : 1125899906842624 - q < a.r) :
    Calls Try.prog 12 #[.pointer (some ⟨X, 0, none⟩), .int .i64 id, .int .i64 q] w fun e w' => e = .returned (.int .i64 72) ∧ w = w' := by
  obtain ⟨h1, h2⟩ := hok
  have c0 := h.cellL
  have l1 := h.lookL id
  rw [show ptrL lv id = some ⟨a.g, 0, none⟩ from by unfold ptrL; rw [ha]; rfl] at l1
  have r0 : w.cell? ⟨a.g, 1, none⟩ = some (.int .i64 a.r) := (h.atL ha).cell 1
  have hw : IntKind.i64.wrap (1125899906842624 - q) = 1125899906842624 - q := IntWalk.i64_in _ ⟨by omega, by omega⟩
  have b1 : decide (q < 1) = false := decide_eq_false (by omega)
  have b2 : decide (1000000 < q) = false := decide_eq_false (by omega)
  have b3 : decide (1125899906842624 - q < a.r) = true := decide_eq_true hm
  clear h ha h1 h2 hm
  go_enter Try.func12, Try.ntmps12
  go_wp2_with fail
  go_ret
  exact ⟨rfl, rfl⟩
set_option maxRecDepth 100000 in
set_option maxHeartbeats 4000000 in
theorem recv_yes (h : IsBook n0 w X BL BG lv gs) (id q : Int) (hok : 1 ≤ q ∧ q ≤ 1000000) {a : Lv} (ha : mget lv id = some a) (hm : a.r ≤ 1125899906842624 - q) (hbd : LvB a) :
    Calls Try.prog 12 #[.pointer (some ⟨X, 0, none⟩), .int .i64 id, .int .i64 q] w fun e w' => e = .returned (.int .i64 0) ∧ IsBook n0 w' X BL BG (mset lv id ⟨a.g, a.i, a.r + q, a.h + q, a.a, a.s, a.t⟩) gs ∧ Touch (Own BL BG lv gs) w w' := by
  obtain ⟨h1, h2⟩ := hok
  unfold LvB at hbd
  have c0 := h.cellL
  have l1 := h.lookL id
  rw [show ptrL lv id = some ⟨a.g, 0, none⟩ from by unfold ptrL; rw [ha]; rfl] at l1
  have hB := h.atL ha
  have r1 : w.cell? ⟨a.g, 1, none⟩ = some (.int .i64 a.r) := hB.cell 1
  have r2 : w.cell? ⟨a.g, 2, none⟩ = some (.int .i64 a.h) := hB.cell 2
  have f1 := hB.free 1
  have f2 := hB.free 2
  have hw : IntKind.i64.wrap (1125899906842624 - q) = 1125899906842624 - q := IntWalk.i64_in _ ⟨by omega, by omega⟩
  have hw1 : IntKind.i64.wrap (a.r + q) = a.r + q := IntWalk.i64_in _ ⟨by omega, by omega⟩
  have hw2 : IntKind.i64.wrap (a.h + q) = a.h + q := IntWalk.i64_in _ ⟨by omega, by omega⟩
  have b1 : decide (q < 1) = false := decide_eq_false (by omega)
  have b2 : decide (1000000 < q) = false := decide_eq_false (by omega)
  have b3 : decide (1125899906842624 - q < a.r) = false := decide_eq_false (by omega)
  have hT := (Touch.setCell w a.g 1 (.int .i64 (a.r + q))).then (Touch.setCell (w.setCell ⟨a.g, 1, none⟩ (.int .i64 (a.r + q))) a.g 2 (.int .i64 (a.h + q)))
  have hB2 := (hB.set_ 1 (.int .i64 (a.r + q))).set_ 2 (.int .i64 (a.h + q))
  have hF := hid (And.intro (h.putL (a' := ⟨a.g, a.i, a.r + q, a.h + q, a.a, a.s, a.t⟩) ha rfl hT (by simpa [enV] using hB2)) (hT.mono (fun k hk => (.inr (.inr (.inl ⟨_, mget_mem ha, hk.symm⟩)) : Own BL BG lv gs k))))
  clear h ha h1 h2 hm hbd hB hT hB2
  go_enter Try.func12, Try.ntmps12
  go_wp2_with fail
  go_ret
  exact ⟨rfl, hF.out.1, hF.out.2⟩
end

end Go.Proofs.Ythfaaimmfdidnaa

/-
  The credit book, continued: Release; the laws' wakes.
-/
import Derived.Test.YtpofhadeepgmbaaBook3
import Derived.Test.YtpofhadeepgmbaaMap3
namespace Go.Proofs.Ytpofhadeepgmbaa
open Go.RowKit
set_option linter.unusedVariables false

section
variable {n0 : Nat} {w : World} {X BA BH : Nat} {ac : List (Int × Acc)} {hs : List (Int × Hd)}

set_option maxRecDepth 100000 in
set_option maxHeartbeats 1000000 in
theorem release_no (h : IsBook n0 w X BA BH ac hs) (o : Int) (hm : mget hs o = none) :
    Calls Try.prog 14 #[.pointer (some ⟨X, 0, none⟩), .int .i64 o] w fun e w' => e = .returned (.int .i64 70) ∧ Below w.heap.size w w' := by
  have l2 := h.lookH o
  have hH := h.cellH
  rw [hm] at l2
  simp only [enH, Option.getD_none, Option.isSome_none] at l2
  clear hm
  go_enter Try.func14, Try.ntmps14
  go_wp2_with fail
  go_ret
  exact ⟨rfl, (Below.refl _ _).alloc (Nat.le_refl _) _⟩

set_option maxRecDepth 100000 in
set_option maxHeartbeats 1000000 in
theorem release_yes (h : IsBook n0 w X BA BH ac hs) (o : Int) (d : Hd) (hm : mget hs o = some d) (a : Acc) (ha : mget ac d.c = some a) :
    Calls Try.prog 14 #[.pointer (some ⟨X, 0, none⟩), .int .i64 o] w fun e w' => e = .returned (.int .i64 0) ∧
      IsBook n0 w' X BA BH (mset ac d.c ⟨a.g, a.l, wrap64 (a.e - d.a)⟩) (mdel hs o) ∧ Touch (Own BA BH ac) w w' := by
  obtain ⟨do', c, n⟩ := d
  simp only at ha ⊢
  have l2 := h.lookH o
  have hH := h.cellH
  rw [hm] at l2
  simp only [enH, Option.getD_some, Option.isSome_some] at l2
  have h1 : IsBook n0 (w.alloc (.cells #[.int .i64 do', .int .i64 c, .int .i64 n] 40)) X BA BH ac hs := h.alloc _
  have hp : Blk (w.alloc (.cells #[.int .i64 do', .int .i64 c, .int .i64 n] 40)) w.heap.size 40 #[.int .i64 do', .int .i64 c, .int .i64 n] := Blk.new _ _ _
  have hT : Touch (Own BA BH ac) w (w.alloc (.cells #[.int .i64 do', .int .i64 c, .int .i64 n] 40)) := (Touch.refl _ _).alloc _
  clear hm
  have HA := hid ha
  clear ha
  go_enter Try.func14, Try.ntmps14
  go_wp2_with fail
  obtain ⟨w1, hw1⟩ : ∃ w1, w1 = w.alloc (.cells #[.int .i64 do', .int .i64 c, .int .i64 n] 40) := ⟨_, rfl⟩
  rw [← hw1] at h1 hp hT ⊢
  obtain ⟨G, hG⟩ : ∃ G, G = w.heap.size := ⟨_, rfl⟩
  rw [← hG] at hp ⊢
  clear hw1 hG h l2 hH
  have hA := h1.cellA
  have p1 : w1.cell? ⟨G, 1, none⟩ = some (.int .i64 c) := hp.cell 1
  have p2 : w1.cell? ⟨G, 2, none⟩ = some (.int .i64 n) := hp.cell 2
  have l1 := h1.drew.lookA c
  rw [show ptrOf ac c = some ⟨a.g, 0, none⟩ from by unfold ptrOf; rw [HA.out]; rfl] at l1
  have hc := h1.at_ HA.out
  have c1 : w1.cell? ⟨a.g, 1, none⟩ = some (.int .i64 a.e) := hc.cell 1
  have f1 : w1.frozen? ⟨a.g, 1, none⟩ = false := hc.free 1
  have hput := h1.put (a' := ⟨a.g, a.l, wrap64 (a.e - n)⟩) (i := 1) (v := .int .i64 (wrap64 (a.e - n))) HA.out rfl rfl
  have hown : Own BA BH ac a.g := .inr (.inr ⟨_, mget_mem HA.out, rfl⟩)
  clear HA hc
  obtain ⟨g, l, e⟩ := a
  simp only at c1 f1 l1 hown hput
  refine wp_tail 15 (by kernel_rfl) (by kernel_rfl) ?_
  simp only [List.take_succ_cons, List.take_zero, List.drop_succ_cons, List.drop_zero]
  repeat still_step
  refine wpStill_nil ?_
  have hH := hput.drew.cellH
  have hT2 : Touch (Own BA BH ac) w ((w1.setCell ⟨g, 1, none⟩ (.int .i64 (wrap64 (e - n)))).drew) := (hT.trans (Touch.setCell w1 g 1 _) (fun k hk => .inl (by rw [hk]; exact hown))).drew
  have hq := hput.drew
  clear hput h1 hT l1
  go_wp2_with (first | (at_delete; refine wpList_drop _ rfl _ _ 38 40 3 rfl keyL Try.underlying38 BH hs rfl hq.hds o rfl ?_; intro w3 hM3 hg3 hs3))
  have h3 := hq.free hM3 hg3
  go_ret
  exact ⟨rfl, h3, hT2.then ((Touch.of_grown hg3).mono (fun k hk => .inr (.inl hk)))⟩
end

end Go.Proofs.Ytpofhadeepgmbaa

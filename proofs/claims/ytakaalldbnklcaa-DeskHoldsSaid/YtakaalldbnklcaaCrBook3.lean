/-
  The credit book, continued: put, Hold.
-/
import Derived.Test.YtakaalldbnklcaaCrBook2
namespace Go.Proofs.Ytakaalldbnklcaa.Cr
open Go.RowKit
set_option linter.unusedVariables false

section
variable {n0 : Nat} {w : World} {X BA BH : Nat} {ac : List (Int × Acc)} {hs : List (Int × Hd)}

set_option maxRecDepth 100000 in
set_option maxHeartbeats 1000000 in
theorem put_any (h : IsBook n0 w X BA BH ac hs) (o c n : Int) (a : Acc) (ha : mget ac c = some a) :
    Calls Try.prog 46 #[.pointer (some ⟨X, 0, none⟩), .agg #[.int .i64 o, .int .i64 c, .int .i64 n]] w fun e w' =>
      e = .returned (.tuple #[]) ∧ IsBook n0 w' X BA BH (mset ac c ⟨a.g, a.l, wrap64 (a.e + n)⟩) (mset hs o ⟨o, c, n⟩) ∧ Touch (Own BA BH ac) w w' := by
  have h1 : IsBook n0 (w.alloc (.cells #[.int .i64 o, .int .i64 c, .int .i64 n] 121)) X BA BH ac hs := h.alloc _
  have hp : Blk (w.alloc (.cells #[.int .i64 o, .int .i64 c, .int .i64 n] 121)) w.heap.size 121 #[.int .i64 o, .int .i64 c, .int .i64 n] := Blk.new _ _ _
  have hT : Touch (Own BA BH ac) w (w.alloc (.cells #[.int .i64 o, .int .i64 c, .int .i64 n] 121)) := (Touch.refl _ _).alloc _
  go_enter Try.func46, Try.ntmps46
  go_wp2_with fail
  obtain ⟨w1, hw1⟩ : ∃ w1, w1 = w.alloc (.cells #[.int .i64 o, .int .i64 c, .int .i64 n] 121) := ⟨_, rfl⟩
  rw [← hw1] at h1 hp hT ⊢
  obtain ⟨G, hG⟩ : ∃ G, G = w.heap.size := ⟨_, rfl⟩
  rw [← hG] at hp ⊢
  clear hw1 hG h
  have hA := h1.cellA
  have hH := h1.cellH
  have p0 : w1.cell? ⟨G, 0, none⟩ = some (.int .i64 o) := hp.cell 0
  have p1 : w1.cell? ⟨G, 1, none⟩ = some (.int .i64 c) := hp.cell 1
  have p2 : w1.cell? ⟨G, 2, none⟩ = some (.int .i64 n) := hp.cell 2
  have HA := hid ha
  clear ha
  refine wp_tail 7 (by kernel_rfl) (by kernel_rfl) ?_
  simp only [List.take_succ_cons, List.take_zero, List.drop_succ_cons, List.drop_zero]
  repeat still_step
  refine wpStill_nil ?_
  at_mapUpdate
  refine wpList_store _ rfl _ _ _ 68 121 rfl keyL Try.underlying68 BH hs rfl (IsMap.drew h1.hds) o ⟨o, c, n⟩ rfl rfl ?_
  intro w2 hM2 hg2 hs2
  have h2 : IsBook n0 w2 X BA BH ac (mset hs o ⟨o, c, n⟩) := h1.drew.hold ⟨a, HA.out⟩ hM2 hg2
  have nG : ¬ G = BH := fun e => h1.hds.notBlk hp e.symm
  have hT2 : Touch (Own BA BH ac) w w2 := hT.drew.then ((Touch.of_grown hg2).mono (fun k hk => .inr (.inl hk)))
  have hp2 := (Touch.of_grown hg2).blk (w := w1.drew) hp nG
  clear hM2 hg2 hs2 h1 hT hp hA hH p0 p1 p2
  go_wp2_with fail
  have hA := h2.cellA
  have p1 : w2.cell? ⟨G, 1, none⟩ = some (.int .i64 c) := hp2.cell 1
  have p2 : w2.cell? ⟨G, 2, none⟩ = some (.int .i64 n) := hp2.cell 2
  have l1 := h2.drew.lookA c
  rw [show ptrOf ac c = some ⟨a.g, 0, none⟩ from by unfold ptrOf; rw [HA.out]; rfl] at l1
  have hc := h2.at_ HA.out
  have c1 : w2.cell? ⟨a.g, 1, none⟩ = some (.int .i64 a.e) := hc.cell 1
  have f1 : w2.frozen? ⟨a.g, 1, none⟩ = false := hc.free 1
  have hput := h2.put (a' := ⟨a.g, a.l, wrap64 (a.e + n)⟩) (i := 1) (v := .int .i64 (wrap64 (a.e + n))) HA.out rfl rfl
  have hown : Own BA BH ac a.g := .inr (.inr ⟨_, mget_mem HA.out, rfl⟩)
  clear HA hc
  obtain ⟨g, l, e⟩ := a
  simp only at c1 f1 l1 hown hput
  refine wp_tail 15 (by kernel_rfl) (by kernel_rfl) ?_
  simp only [List.take_succ_cons, List.take_zero, List.drop_succ_cons, List.drop_zero]
  repeat still_step
  refine wpStill_nil ?_
  go_wp2_with fail
  go_end0
  exact ⟨rfl, hput.drew, (hT2.trans (Touch.setCell w2 g 1 _) (fun k hk => .inl (by rw [hk]; exact hown))).drew⟩

/-- Hold, told. -/
def holdR (ac : List (Int × Acc)) (hs : List (Int × Hd)) (o c n : Int) : Int :=
  if 1 ≤ o ∧ 0 ≤ n ∧ n ≤ 1125899906842624 then
    match mget ac c with
    | none => 70
    | some x => if (mget hs o).isSome = true then 71 else if wrap64 (x.l - x.e) < n then 140 else 0
  else 2

set_option maxRecDepth 100000 in
set_option maxHeartbeats 1000000 in
theorem hold_arg (h : IsBook n0 w X BA BH ac hs) (o c n : Int) (hno : ¬ (1 ≤ o ∧ 0 ≤ n ∧ n ≤ 1125899906842624)) :
    Calls Try.prog 33 #[.pointer (some ⟨X, 0, none⟩), .int .i64 o, .int .i64 c, .int .i64 n] w fun e w' => e = .returned (.int .i64 2) ∧ w = w' := by
  by_cases h1 : 1 ≤ o
  · have M := hid fun w => money_no n w (by omega)
    clear hno
    go_enter Try.func33, Try.ntmps33
    go_wp2_with fail
    refine (M.out _).mono ?_
    rintro e w1 ⟨rfl, rfl⟩
    go_wp2_with fail
    go_ret
    exact ⟨rfl, rfl⟩
  · clear hno
    go_enter Try.func33, Try.ntmps33
    go_wp2_with fail
    go_ret
    exact ⟨rfl, rfl⟩

set_option maxRecDepth 100000 in
set_option maxHeartbeats 2000000 in
theorem hold_no (h : IsBook n0 w X BA BH ac hs) (o c n : Int) (hok : 1 ≤ o ∧ 0 ≤ n ∧ n ≤ 1125899906842624) (hr : holdR ac hs o c n ≠ 0) :
    Calls Try.prog 33 #[.pointer (some ⟨X, 0, none⟩), .int .i64 o, .int .i64 c, .int .i64 n] w fun e w' => e = .returned (.int .i64 (holdR ac hs o c n)) ∧ Below w.heap.size w w' := by
  unfold holdR at hr ⊢
  rw [if_pos hok] at hr ⊢
  obtain ⟨k1, k2, k3⟩ := hok
  have M := hid fun w => money_yes n w k2 k3
  have l1 := h.lookA c
  have l2 := h.lookH o
  have hA := h.cellA
  have hH := h.cellH
  unfold ptrOf at l1
  generalize hz : (mget hs o).isSome = z at l2 hr ⊢
  clear hz
  generalize (mget hs o).getD ⟨0, 0, 0⟩ = d at l2
  obtain ⟨d1, d2, d3⟩ := d
  simp only [enH] at l2
  cases hm : mget ac c with
  | none =>
    rw [hm] at l1 hr
    simp only [Option.map_none] at l1
    clear hm hr
    go_enter Try.func33, Try.ntmps33
    go_wp2_with fail
    refine (M.out _).mono ?_
    rintro e w1 ⟨rfl, rfl⟩
    go_wp2_with fail
    go_ret
    exact ⟨rfl, (Below.refl _ _).alloc (Nat.le_refl _) _⟩
  | some a =>
    have hc := h.at_ hm
    have c0 : w.cell? ⟨a.g, 0, none⟩ = some (.int .i64 a.l) := hc.cell 0
    have c1 : w.cell? ⟨a.g, 1, none⟩ = some (.int .i64 a.e) := hc.cell 1
    rw [hm] at l1 hr
    obtain ⟨g, l, e⟩ := a
    simp only [Option.map_some] at l1 c0 c1 hr ⊢
    have hgl : g < w.heap.size := hc.lt
    clear hm hc
    cases z with
    | true =>
      clear hr
      go_enter Try.func33, Try.ntmps33
      go_wp2_with fail
      refine (M.out _).mono ?_
      rintro e w1 ⟨rfl, rfl⟩
      go_wp2_with fail
      go_ret
      exact ⟨rfl, (Below.refl _ _).alloc (Nat.le_refl _) _⟩
    | false =>
      have hlt : wrap64 (l - e) < n := by
        rcases Int.lt_or_le (wrap64 (l - e)) n with h | h
        · exact h
        · exfalso; apply hr; rw [if_neg (by decide), if_neg (by omega)]
      rw [if_neg (by decide), if_pos hlt]
      have HD := hid (show decide (wrap64 (l - e) < n) = true from decide_eq_true hlt)
      clear hr
      go_enter Try.func33, Try.ntmps33
      go_wp2_with fail
      refine (M.out _).mono ?_
      rintro e1 w1 ⟨rfl, rfl⟩
      go_wp2_with fail
      have hd := HD.out
      go_quiet (fail)
      go_wp2_with fail
      go_ret
      exact ⟨rfl, below_drewN ((Below.refl _ _).alloc (Nat.le_refl _) _) _⟩

set_option maxRecDepth 100000 in
set_option maxHeartbeats 2000000 in
theorem hold_ok (h : IsBook n0 w X BA BH ac hs) (o c n : Int) (hok : 1 ≤ o ∧ 0 ≤ n ∧ n ≤ 1125899906842624) (a : Acc) (ha : mget ac c = some a) (hnone : mget hs o = none) (hle : n ≤ wrap64 (a.l - a.e)) :
    Calls Try.prog 33 #[.pointer (some ⟨X, 0, none⟩), .int .i64 o, .int .i64 c, .int .i64 n] w fun e w' => e = .returned (.int .i64 0) ∧
      IsBook n0 w' X BA BH (mset ac c ⟨a.g, a.l, wrap64 (a.e + n)⟩) (mset hs o ⟨o, c, n⟩) ∧ Touch (Own BA BH ac) w w' := by
  obtain ⟨k1, k2, k3⟩ := hok
  have M := hid fun w => money_yes n w k2 k3
  have P := hid fun w (h : IsBook n0 w X BA BH ac hs) => put_any h o c n a ha
  have l1 := h.lookA c
  have l2 := h.lookH o
  have hA := h.cellA
  have hH := h.cellH
  unfold ptrOf at l1
  rw [hnone] at l2
  simp only [enH, Option.getD_none, Option.isSome_none] at l2
  have hc := h.at_ ha
  have c0 : w.cell? ⟨a.g, 0, none⟩ = some (.int .i64 a.l) := hc.cell 0
  have c1 : w.cell? ⟨a.g, 1, none⟩ = some (.int .i64 a.e) := hc.cell 1
  rw [ha] at l1
  obtain ⟨g, l, e⟩ := a
  simp only [Option.map_some] at l1 c0 c1 hle
  have hgl : g < w.heap.size := hc.lt
  have HD := hid (show decide (wrap64 (l - e) < n) = false from decide_eq_false (by omega))
  clear ha hnone hc
  go_enter Try.func33, Try.ntmps33
  go_wp2_with fail
  refine (M.out _).mono ?_
  rintro e1 w1 ⟨rfl, rfl⟩
  go_wp2_with fail
  have hd := HD.out
  go_quiet (fail)
  go_wp2_with fail
  have h1 := (h.alloc (.cells #[.int .i64 0, .int .i64 0, .int .i64 0] 121)).drewN nq
  refine (P.out _ h1).mono ?_
  rintro e1 w2 ⟨rfl, h2, hT⟩
  go_wp2_with fail
  go_ret
  exact ⟨rfl, h2, (((Touch.refl _ w).alloc _).drewN nq).then hT⟩
end

end Go.Proofs.Ytakaalldbnklcaa.Cr

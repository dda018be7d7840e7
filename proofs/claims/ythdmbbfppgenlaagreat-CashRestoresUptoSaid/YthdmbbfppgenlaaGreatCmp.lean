/-
  cmp.Compare and cmp.Or of numbers, at any count.
-/
import Derived.Test.YthdmbbfppgenlaaGreatSetRow
import Derived.Test.YthdmbbfppgenlaaGreatIn
import Derived.Deep.RegionHeld3
import Derived.Sort.Grow
namespace Go.Proofs.YthdmbbfppgenlaaGreat
open Go.RowKit
set_option linter.unusedVariables false

/-- cmp.Compare of numbers. -/
def cmpI (x y : Int) : Int := if x < y then -1 else if y < x then 1 else 0
theorem isNaN_any (x : Int) (w : World) : Calls Tryz.prog 60 #[.int .i64 x] w fun e w' => e = .returned (.bool false) ∧ w = w' := by
  go_enter Tryz.func60, Tryz.ntmps60
  go_wp2_with fail
  go_ret
  exact ⟨by simp, rfl⟩
theorem compare_any (x y : Int) (w : World) : Calls Tryz.prog 37 #[.int .i64 x, .int .i64 y] w fun e w' => e = .returned (.int .i64 (cmpI x y)) ∧ w = w' := by
  rcases (show x < y ∨ y < x ∨ x = y from by omega) with h1 | h2 | h3
  · go_enter Tryz.func37, Tryz.ntmps37
    go_wp2_with fail
    refine (isNaN_any _ _).mono ?_
    rintro e w1 ⟨rfl, rfl⟩
    go_wp2_with fail
    refine (isNaN_any _ _).mono ?_
    rintro e w1 ⟨rfl, rfl⟩
    go_wp2_with fail
    go_ret
    exact ⟨by simp [cmpI, h1], rfl⟩
  · have h1 : ¬ x < y := by omega
    go_enter Tryz.func37, Tryz.ntmps37
    go_wp2_with fail
    refine (isNaN_any _ _).mono ?_
    rintro e w1 ⟨rfl, rfl⟩
    go_wp2_with fail
    refine (isNaN_any _ _).mono ?_
    rintro e w1 ⟨rfl, rfl⟩
    go_wp2_with fail
    go_ret
    exact ⟨by simp [cmpI, h2, show ¬ x < y from by omega], rfl⟩
  · subst h3
    go_enter Tryz.func37, Tryz.ntmps37
    go_wp2_with fail
    refine (isNaN_any _ _).mono ?_
    rintro e w1 ⟨rfl, rfl⟩
    go_wp2_with fail
    refine (isNaN_any _ _).mono ?_
    rintro e w1 ⟨rfl, rfl⟩
    go_wp2_with fail
    go_ret
    exact ⟨by simp [cmpI], rfl⟩

/-- cmp.Or: the first that is not 0. -/
def orL : List Int → Int
  | [] => 0
  | x :: l => if x = 0 then orL l else x
theorem orL_at {l : List Int} {k : Nat} {x : Int} (h : ∀ (j : Nat) (y : Int), j < k → l[j]? = some y → y = 0) (hk : l[k]? = some x) (hx : x ≠ 0) : orL l = x := by
  induction l generalizing k with
  | nil => simp at hk
  | cons y l ih =>
    cases k with
    | zero => simp at hk; subst hk; simp [orL, hx]
    | succ k =>
      have h0 := h 0 y (Nat.succ_pos k) rfl
      simp only [orL, h0, if_true]
      exact ih (k := k) (fun j z hj hz => h (j + 1) z (by omega) (by simpa using hz)) (by simpa using hk)
theorem orL_none {l : List Int} (h : ∀ (j : Nat) (y : Int), l[j]? = some y → y = 0) : orL l = 0 := by
  induction l with
  | nil => rfl
  | cons y l ih =>
    simp only [orL, h 0 y rfl, if_true]
    exact ih (fun j z hz => h (j + 1) z (by simpa using hz))

set_option maxHeartbeats 1000000 in
theorem orL_any (g : Nat) (xs : List Int) (hl : xs.length ≤ 1000) (w : World) (h : Blk w g 3 (xs.map (Value.int .i64)).toArray) : Calls Tryz.prog 45 #[.slice (some ⟨g, 0, none⟩) xs.length xs.length] w fun e w' => e = .returned (.int .i64 (orL xs)) ∧ w = w' := by
  have hc := fun i => h.cell i
  go_enter Tryz.func45, Tryz.ntmps45
  have HC := hid hc
  clear hc h
  go_wp2_with fail
  go_loop [8] (fun i => ∃ k : Nat, k ≤ xs.length ∧ i = .int .i64 k ∧ Hid (∀ (j : Nat) (y : Int), j < k → xs[j]? = some y → y = 0)) (fun i => xs.length - (intOf i).toNat)
  case atStart => exact ⟨0, Nat.zero_le _, rfl, hid (fun j y hj => by omega)⟩
  case round =>
    obtain ⟨k, hk, rfl, hz⟩ := hrel
    by_cases hlt : k < xs.length
    · obtain ⟨x, hx⟩ : ∃ x, xs[k]? = some x := ⟨xs[k], List.getElem?_eq_getElem hlt⟩
      have c0 : w.cell? ⟨g, k, none⟩ = some (.int .i64 x) := by
        rw [HC.out k, List.getElem?_toArray, List.getElem?_map, hx]
        rfl
      have HX := hid hx
      clear hx
      by_cases h0 : x = 0
      · subst h0
        go_wp2_with fail
        go_round
        case rel => exact ⟨k + 1, by omega, by go_num, hid (fun j y hj hy => by
          rcases Nat.lt_succ_iff_lt_or_eq.1 hj with h | h
          · exact hz.out j y h hy
          · subst h; rw [HX.out] at hy; injection hy with hy; exact hy.symm)⟩
        case measure => simp [intOf]; omega
      · have h1 : (x != 0) = true := by simpa using h0
        have H0 := hid h0
        clear h0
        go_wp2_with fail
        go_ret
        exact ⟨by rw [orL_at hz.out HX.out H0.out]; rfl, rfl⟩
    · have HZ : Hid (orL xs = 0) := hid (orL_none (fun j y hy => hz.out j y (by have := (List.getElem?_eq_some_iff.1 hy).1; omega) hy))
      clear hz
      go_wp2_with fail
      go_ret
      exact ⟨by rw [HZ.out]; rfl, rfl⟩

/-- Nothing has turned: draws, and blocks behind. -/
def Grew (w w' : World) : Prop := ∃ q os, w' = Sort.grow (w.drewN q) os
theorem Grew.refl (w : World) : Grew w w := ⟨0, #[], by simp [Sort.grow, World.drewN]⟩
theorem Grew.alloc {w w' : World} (h : Grew w w') (o : Obj) : Grew w (w'.alloc o) := by
  obtain ⟨q, os, rfl⟩ := h
  exact ⟨q, os ++ #[o], by rw [Sort.alloc_eq_grow, Sort.grow_grow]⟩
theorem Grew.drew {w w' : World} (h : Grew w w') : Grew w w'.drew := by
  obtain ⟨q, os, rfl⟩ := h
  exact ⟨q + 1, os, rfl⟩
theorem Grew.drewN {w w' : World} (h : Grew w w') (n : Nat) : Grew w (w'.drewN n) := by
  obtain ⟨q, os, rfl⟩ := h
  exact ⟨q + n, os, by simp [Sort.grow, World.drewN, Nat.add_assoc]⟩
theorem grew_below {w w' : World} (h : Grew w w') : Below w.heap.size w w' := by
  obtain ⟨q, os, rfl⟩ := h
  exact ⟨rfl, rfl, rfl, by simp [Sort.grow, World.drewN], fun k hk => by rw [Sort.heap_grow_old _ _ (by simpa [World.drewN] using hk)]; rfl⟩

end Go.Proofs.YthdmbbfppgenlaaGreat

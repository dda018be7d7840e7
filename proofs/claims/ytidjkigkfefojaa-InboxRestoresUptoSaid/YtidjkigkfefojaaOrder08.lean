/-
  The order of entries: cmp.Compare, cmp.Or, and the inbox's order.
-/
import Derived.Test.YtidjkigkfefojaaOnce
import Derived.Deep.RegionHeld3
import Derived.Sort.Grow
namespace Go.Proofs.Ytidjkigkfefojaa
open Go.RowKit
set_option linter.unusedVariables false

/-- cmp.Compare of numbers. -/
def cmpI (x y : Int) : Int := if x < y then -1 else if y < x then 1 else 0
theorem isNaN_any (x : Int) (w : World) : Calls Try.prog 42 #[.int .i64 x] w fun e w' => e = .returned (.bool false) ∧ w = w' := by
  go_enter Try.func42, Try.ntmps42
  go_wp2_with fail
  go_ret
  exact ⟨by simp, rfl⟩
theorem compare_any (x y : Int) (w : World) : Calls Try.prog 31 #[.int .i64 x, .int .i64 y] w fun e w' => e = .returned (.int .i64 (cmpI x y)) ∧ w = w' := by
  by_cases h1 : x < y
  · go_enter Try.func31, Try.ntmps31
    go_wp2_with fail
    refine (isNaN_any _ _).mono ?_
    rintro e w1 ⟨rfl, rfl⟩
    go_wp2_with fail
    refine (isNaN_any _ _).mono ?_
    rintro e w1 ⟨rfl, rfl⟩
    go_wp2_with fail
    go_ret
    exact ⟨by simp [cmpI, h1], rfl⟩
  · by_cases h2 : y < x
    · go_enter Try.func31, Try.ntmps31
      go_wp2_with fail
      refine (isNaN_any _ _).mono ?_
      rintro e w1 ⟨rfl, rfl⟩
      go_wp2_with fail
      refine (isNaN_any _ _).mono ?_
      rintro e w1 ⟨rfl, rfl⟩
      go_wp2_with fail
      go_ret
      exact ⟨by simp [cmpI, h2, show ¬ x < y from by omega], rfl⟩
    · go_enter Try.func31, Try.ntmps31
      go_wp2_with fail
      refine (isNaN_any _ _).mono ?_
      rintro e w1 ⟨rfl, rfl⟩
      go_wp2_with fail
      refine (isNaN_any _ _).mono ?_
      rintro e w1 ⟨rfl, rfl⟩
      go_wp2_with fail
      go_ret
      exact ⟨by simp [cmpI, show ¬ y < x from by omega, show ¬ x < y from by omega], rfl⟩

/-- cmp.Or of two numbers. -/
def orI (x y : Int) : Int := if x = 0 then y else x

set_option maxHeartbeats 1000000 in
theorem or_any (g : Nat) (x y : Int) (w : World) (h : Blk w g 3 #[.int .i64 x, .int .i64 y]) : Calls Try.prog 30 #[.slice (some ⟨g, 0, none⟩) 2 2] w fun e w' => e = .returned (.int .i64 (orI x y)) ∧ w = w' := by
  have c0 : w.cell? ⟨g, 0, none⟩ = some (.int .i64 x) := h.cell 0
  have c1 : w.cell? ⟨g, 1, none⟩ = some (.int .i64 y) := h.cell 1
  go_enter Try.func30, Try.ntmps30
  go_wp2_with fail
  go_loop [8] (fun i => i = .int .i64 0 ∨ (i = .int .i64 1 ∧ Hid (x = 0)) ∨ (i = .int .i64 2 ∧ Hid (x = 0 ∧ y = 0))) (fun i => 2 - (intOf i).toNat)
  case atStart => exact .inl rfl
  case round =>
    rcases hrel with rfl | ⟨rfl, hx⟩ | ⟨rfl, hx⟩
    · by_cases h0 : x = 0
      · have h1 : (x != 0) = false := by simpa using h0
        have H0 := hid h0
        clear h0
        go_wp2_with fail
        go_round
        case rel => exact .inr (.inl ⟨rfl, H0⟩)
        case measure => simp [intOf]
      · have h1 : (x != 0) = true := by simpa using h0
        have H0 := hid h0
        clear h0
        go_wp2_with fail
        go_ret
        exact ⟨by simp [orI, H0.out], rfl⟩
    · by_cases h0 : y = 0
      · have h1 : (y != 0) = false := by simpa using h0
        have H0 := hid h0
        clear h0
        go_wp2_with fail
        go_round
        case rel => exact .inr (.inr ⟨rfl, hid ⟨hx.out, H0.out⟩⟩)
        case measure => simp [intOf]
      · have h1 : (y != 0) = true := by simpa using h0
        clear h0
        go_wp2_with fail
        go_ret
        exact ⟨by simp [orI, hx.out], rfl⟩
    · go_wp2_with fail
      go_ret
      exact ⟨by simp [orI, hx.out.1, hx.out.2], rfl⟩

/-- Nothing has turned: draws, and blocks behind. -/
def Grew (w w' : World) : Prop := ∃ q os, w' = Sort.grow (w.drewN q) os
theorem Grew.refl (w : World) : Grew w w := ⟨0, #[], by simp [Sort.grow, World.drewN]⟩
theorem Grew.alloc {w w' : World} (h : Grew w w') (o : Obj) : Grew w (w'.alloc o) := by
  obtain ⟨q, os, rfl⟩ := h
  exact ⟨q, os ++ #[o], by rw [Sort.alloc_eq_grow, Sort.grow_grow]⟩
theorem Grew.drew {w w' : World} (h : Grew w w') : Grew w w'.drew := by
  obtain ⟨q, os, rfl⟩ := h
  exact ⟨q + 1, os, rfl⟩
theorem Grew.drewN {w w' : World} (h : Grew w w') (n : Nat) : Grew w (w'.drewN n) := by
  obtain ⟨q, os, rfl⟩ := h
  exact ⟨q + n, os, by simp [Sort.grow, World.drewN, Nat.add_assoc]⟩

/-- The order of two entries. -/
def cfE (x y : Ent) : Int := orI (cmpI x.o y.o) (cmpI x.s y.s)

set_option maxRecDepth 100000 in
set_option maxHeartbeats 4000000 in
theorem order_any (x y : Ent) (w : World) : Calls Try.prog 25 #[enE x, enE y] w fun e w' => e = .returned (.int .i64 (cfE x y)) ∧ Grew w w' := by
  obtain ⟨xo, xs, xt, xc, xb⟩ := x
  obtain ⟨yo, ys, yt, yc, yb⟩ := y
  simp only [enE]
  have b1 : Blk ((w.alloc (.cells #[.int .i64 xo, .int .i64 xs, .int .i64 xt, .int .i64 xc, .bool xb] 58)).alloc (.cells #[.int .i64 yo, .int .i64 ys, .int .i64 yt, .int .i64 yc, .bool yb] 58)) w.heap.size 58 #[.int .i64 xo, .int .i64 xs, .int .i64 xt, .int .i64 xc, .bool xb] := (Blk.new _ _ _).alloc _
  have b2 : Blk ((w.alloc (.cells #[.int .i64 xo, .int .i64 xs, .int .i64 xt, .int .i64 xc, .bool xb] 58)).alloc (.cells #[.int .i64 yo, .int .i64 ys, .int .i64 yt, .int .i64 yc, .bool yb] 58)) (w.heap.size + 1) 58 #[.int .i64 yo, .int .i64 ys, .int .i64 yt, .int .i64 yc, .bool yb] := by
    have := Blk.new (w.alloc (.cells #[.int .i64 xo, .int .i64 xs, .int .i64 xt, .int .i64 xc, .bool xb] 58)) 58 #[.int .i64 yo, .int .i64 ys, .int .i64 yt, .int .i64 yc, .bool yb]
    rw [World.size_alloc] at this
    exact this
  have hg : Grew w ((w.alloc (.cells #[.int .i64 xo, .int .i64 xs, .int .i64 xt, .int .i64 xc, .bool xb] 58)).alloc (.cells #[.int .i64 yo, .int .i64 ys, .int .i64 yt, .int .i64 yc, .bool yb] 58)) := ((Grew.refl w).alloc _).alloc _
  have B1 := hid b1
  have B2 := hid b2
  clear b1 b2
  go_enter Try.func25, Try.ntmps25
  go_wp2_with fail
  obtain ⟨W, hW⟩ : ∃ W, W = (w.alloc (.cells #[.int .i64 xo, .int .i64 xs, .int .i64 xt, .int .i64 xc, .bool xb] 58)).alloc (.cells #[.int .i64 yo, .int .i64 ys, .int .i64 yt, .int .i64 yc, .bool yb] 58) := ⟨_, rfl⟩
  replace B1 := B1.out
  replace B2 := B2.out
  rw [← hW] at B1 B2 hg ⊢
  obtain ⟨G, hG⟩ : ∃ G, G = w.heap.size := ⟨_, rfl⟩
  rw [← hG] at B1 B2 ⊢
  clear hW hG
  have p0 : W.cell? ⟨G, 0, none⟩ = some (.int .i64 xo) := B1.cell 0
  have p1 : W.cell? ⟨G, 1, none⟩ = some (.int .i64 xs) := B1.cell 1
  have p2 : W.cell? ⟨G + 1, 0, none⟩ = some (.int .i64 yo) := B2.cell 0
  have p3 : W.cell? ⟨G + 1, 1, none⟩ = some (.int .i64 ys) := B2.cell 1
  have b1 := B1.alloc (.cells #[.int .i64 (cmpI xo yo), .int .i64 (cmpI xs ys)] 3)
  have b2 := B2.alloc (.cells #[.int .i64 (cmpI xo yo), .int .i64 (cmpI xs ys)] 3)
  have Q := hid (show (W.alloc (.cells #[.int .i64 (cmpI xo yo), .int .i64 (cmpI xs ys)] 3)).drew.cell? ⟨G, 0, none⟩ = some (.int .i64 xo) ∧ (W.alloc (.cells #[.int .i64 (cmpI xo yo), .int .i64 (cmpI xs ys)] 3)).drew.cell? ⟨G, 1, none⟩ = some (.int .i64 xs) ∧
      (W.alloc (.cells #[.int .i64 (cmpI xo yo), .int .i64 (cmpI xs ys)] 3)).drew.cell? ⟨G + 1, 0, none⟩ = some (.int .i64 yo) ∧ (W.alloc (.cells #[.int .i64 (cmpI xo yo), .int .i64 (cmpI xs ys)] 3)).drew.cell? ⟨G + 1, 1, none⟩ = some (.int .i64 ys) from
    ⟨b1.cell 0, b1.cell 1, b2.cell 0, b2.cell 1⟩)
  have O := hid (or_any W.heap.size (cmpI xo yo) (cmpI xs ys) (W.alloc (.cells #[.int .i64 (cmpI xo yo), .int .i64 (cmpI xs ys)] 3)).drew (Blk.new W _ _))
  clear B1 B2 b1 b2
  go_region_held3 (fun w' => w'.cell? ⟨G, 0, none⟩ = some (.int .i64 xo) ∧ w'.cell? ⟨G, 1, none⟩ = some (.int .i64 xs) ∧ w'.cell? ⟨G + 1, 0, none⟩ = some (.int .i64 yo) ∧ w'.cell? ⟨G + 1, 1, none⟩ = some (.int .i64 ys))
    (first | exact ⟨p0, p1, p2, p3⟩ | exact Q.out)
    (first
      | (go_at_call 31; refine (compare_any _ _ _).mono ?_; rintro e w5 ⟨rfl, rfl⟩)
      | (go_at_call 30; refine O.out.mono ?_; rintro e w6 ⟨rfl, rfl⟩))
  all_goals
    go_wp2_with fail
    go_ret
    exact ⟨rfl, (hg.alloc _).drew⟩

end Go.Proofs.Ytidjkigkfefojaa

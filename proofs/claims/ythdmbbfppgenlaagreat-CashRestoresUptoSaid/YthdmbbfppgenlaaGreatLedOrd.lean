/-
  The ledger: the order of sums.
-/
import Derived.Test.YthdmbbfppgenlaaGreatCmp
import Derived.Test.YthdmbbfppgenlaaGreatLedP
namespace Go.Proofs.YthdmbbfppgenlaaGreat
open Go.RowKit Go.WideShapes Go.ChangeShapes Go.ChangeAt Go.Deep
set_option linter.unusedVariables false

theorem isNaNA_any (x : Int) (w : World) : Calls Tryz.prog 63 #[.int .i64 x] w fun e w' => e = .returned (.bool false) ∧ w = w' := by
  go_enter Tryz.func63, Tryz.ntmps63
  go_wp2_with fail
  go_ret
  exact ⟨by simp, rfl⟩
theorem compareA_any (x y : Int) (w : World) : Calls Tryz.prog 46 #[.int .i64 x, .int .i64 y] w fun e w' => e = .returned (.int .i64 (cmpI x y)) ∧ w = w' := by
  rcases (show x < y ∨ y < x ∨ x = y from by omega) with h1 | h2 | h3
  · go_enter Tryz.func46, Tryz.ntmps46
    go_wp2_with fail
    refine (isNaNA_any _ _).mono ?_
    rintro e w1 ⟨rfl, rfl⟩
    go_wp2_with fail
    refine (isNaNA_any _ _).mono ?_
    rintro e w1 ⟨rfl, rfl⟩
    go_wp2_with fail
    go_ret
    exact ⟨by simp [cmpI, h1], rfl⟩
  · have h1 : ¬ x < y := by omega
    go_enter Tryz.func46, Tryz.ntmps46
    go_wp2_with fail
    refine (isNaNA_any _ _).mono ?_
    rintro e w1 ⟨rfl, rfl⟩
    go_wp2_with fail
    refine (isNaNA_any _ _).mono ?_
    rintro e w1 ⟨rfl, rfl⟩
    go_wp2_with fail
    go_ret
    exact ⟨by simp [cmpI, h2, show ¬ x < y from by omega], rfl⟩
  · subst h3
    go_enter Tryz.func46, Tryz.ntmps46
    go_wp2_with fail
    refine (isNaNA_any _ _).mono ?_
    rintro e w1 ⟨rfl, rfl⟩
    go_wp2_with fail
    refine (isNaNA_any _ _).mono ?_
    rintro e w1 ⟨rfl, rfl⟩
    go_wp2_with fail
    go_ret
    exact ⟨by simp [cmpI], rfl⟩


def enS (s : Sm) : List Value := [.int .i64 s.c, .int .i64 s.a, .int .i64 s.n]
theorem enS_len (s : Sm) : (enS s).length = 3 := rfl
theorem enS_one (s : Sm) : ∀ v ∈ enS s, v.oneCell' = true := by
  intro v hv
  simp only [enS, List.mem_cons, List.not_mem_nil, or_false] at hv
  rcases hv with rfl | rfl | rfl <;> rfl
theorem info_sm : (Tryz.prog.info? 86).map (fun i => (i.zero, i.size, i.bytes)) = some (some (.agg #[.int .i64 0, .int .i64 0, .int .i64 0]), 3, 24) := by kernel_rfl

def cfS (x y : Sm) : Int := orL [cmpI x.c y.c, cmpI x.a y.a]
def lt2S (x y : Sm) : Bool := decide (cfS x y < 0)
theorem cmpI_cases (x y : Int) : (x < y ∧ cmpI x y = -1) ∨ (y < x ∧ cmpI x y = 1) ∨ (x = y ∧ cmpI x y = 0) := by
  unfold cmpI
  rcases (show x < y ∨ y < x ∨ x = y from by omega) with h | h | h
  · left; exact ⟨h, by simp [h]⟩
  · right; left; exact ⟨h, by rw [if_neg (by omega), if_pos h]⟩
  · right; right; exact ⟨h, by subst h; simp⟩
theorem lt2S_eq (x y : Sm) : lt2S x y = ltS (keyS x) (keyS y) := by
  rw [Bool.eq_iff_iff, ltS_iff]
  unfold lt2S cfS
  rw [decide_eq_true_eq]
  simp only [keyS]
  rcases cmpI_cases x.c y.c with ⟨h, e⟩ | ⟨h, e⟩ | ⟨h, e⟩ <;> rcases cmpI_cases x.a y.a with ⟨h2, e2⟩ | ⟨h2, e2⟩ | ⟨h2, e2⟩ <;> simp [orL, e, e2] <;> omega
theorem swoS : Sort.SWO lt2S where
  irrefl x := by rw [lt2S_eq]; exact linS.irrefl _
  trans x y z h g := by rw [lt2S_eq] at *; exact linS.trans _ _ _ h g
  ntrans x y z h1 h2 := by
    rw [lt2S_eq] at *
    cases h : ltS (keyS x) (keyS z) with
    | false => rfl
    | true =>
      have h' := (ltS_iff _ _).1 h
      have a := ltS_no h1
      have b := ltS_no h2
      omega

set_option maxRecDepth 100000 in
set_option maxHeartbeats 4000000 in
theorem lorder_any (x y : Sm) (w : World) : Calls Tryz.prog 65 #[.agg #[.int .i64 x.c, .int .i64 x.a, .int .i64 x.n], .agg #[.int .i64 y.c, .int .i64 y.a, .int .i64 y.n]] w fun e w' => e = .returned (.int .i64 (cfS x y)) ∧ Grew w w' := by
  obtain ⟨xd, xo, xs⟩ := x
  obtain ⟨yd, yo, ys⟩ := y
  simp only
  have b1 : Blk ((w.alloc (.cells #[.int .i64 xd, .int .i64 xo, .int .i64 xs] 86)).alloc (.cells #[.int .i64 yd, .int .i64 yo, .int .i64 ys] 86)) w.heap.size 86 #[.int .i64 xd, .int .i64 xo, .int .i64 xs] := (Blk.new _ _ _).alloc _
  have b2 : Blk ((w.alloc (.cells #[.int .i64 xd, .int .i64 xo, .int .i64 xs] 86)).alloc (.cells #[.int .i64 yd, .int .i64 yo, .int .i64 ys] 86)) (w.heap.size + 1) 86 #[.int .i64 yd, .int .i64 yo, .int .i64 ys] := by
    have := Blk.new (w.alloc (.cells #[.int .i64 xd, .int .i64 xo, .int .i64 xs] 86)) 86 #[.int .i64 yd, .int .i64 yo, .int .i64 ys]
    rw [World.size_alloc] at this
    exact this
  have hg : Grew w ((w.alloc (.cells #[.int .i64 xd, .int .i64 xo, .int .i64 xs] 86)).alloc (.cells #[.int .i64 yd, .int .i64 yo, .int .i64 ys] 86)) := ((Grew.refl w).alloc _).alloc _
  have B1 := hid b1
  have B2 := hid b2
  clear b1 b2
  go_enter Tryz.func65, Tryz.ntmps65
  go_wp2_with fail
  obtain ⟨W, hW⟩ : ∃ W, W = (w.alloc (.cells #[.int .i64 xd, .int .i64 xo, .int .i64 xs] 86)).alloc (.cells #[.int .i64 yd, .int .i64 yo, .int .i64 ys] 86) := ⟨_, rfl⟩
  replace B1 := B1.out
  replace B2 := B2.out
  rw [← hW] at B1 B2 hg ⊢
  obtain ⟨G, hG⟩ : ∃ G, G = w.heap.size := ⟨_, rfl⟩
  rw [← hG] at B1 B2 ⊢
  clear hW hG
  have p0 : W.cell? ⟨G, 0, none⟩ = some (.int .i64 xd) := B1.cell 0
  have p1 : W.cell? ⟨G, 1, none⟩ = some (.int .i64 xo) := B1.cell 1
  have p3 : W.cell? ⟨G + 1, 0, none⟩ = some (.int .i64 yd) := B2.cell 0
  have p4 : W.cell? ⟨G + 1, 1, none⟩ = some (.int .i64 yo) := B2.cell 1
  have b1 := B1.alloc (.cells #[.int .i64 (cmpI xd yd), .int .i64 (cmpI xo yo)] 3)
  have b2 := B2.alloc (.cells #[.int .i64 (cmpI xd yd), .int .i64 (cmpI xo yo)] 3)
  have Q := hid (And.intro b1 b2)
  have O := hid (show Calls Tryz.prog 45 #[.slice (some ⟨W.heap.size, 0, none⟩) 2 2] (W.alloc (.cells #[.int .i64 (cmpI xd yd), .int .i64 (cmpI xo yo)] 3)).drew fun e w' => e = .returned (.int .i64 (orL [cmpI xd yd, cmpI xo yo])) ∧ (W.alloc (.cells #[.int .i64 (cmpI xd yd), .int .i64 (cmpI xo yo)] 3)).drew = w' from orL_any W.heap.size [cmpI xd yd, cmpI xo yo] (by simp) (W.alloc (.cells #[.int .i64 (cmpI xd yd), .int .i64 (cmpI xo yo)] 3)).drew (Blk.new W _ _))
  clear B1 B2 b1 b2
  go_region_held3 (fun w' => w'.cell? ⟨G, 0, none⟩ = some (.int .i64 xd) ∧ w'.cell? ⟨G, 1, none⟩ = some (.int .i64 xo) ∧ w'.cell? ⟨G + 1, 0, none⟩ = some (.int .i64 yd) ∧ w'.cell? ⟨G + 1, 1, none⟩ = some (.int .i64 yo))
    (first | exact ⟨p0, p1, p3, p4⟩ | exact ⟨Q.out.1.cell 0, Q.out.1.cell 1, Q.out.2.cell 0, Q.out.2.cell 1⟩)
    (first
      | (go_at_call 37; refine (compare_any _ _ _).mono ?_; rintro e w5 ⟨rfl, rfl⟩)
      | (go_at_call 46; refine (compareA_any _ _ _).mono ?_; rintro e w5 ⟨rfl, rfl⟩)
      | (go_at_call 45; refine O.out.mono ?_; rintro e w6 ⟨rfl, rfl⟩))
  all_goals
    go_wp2_with fail
    go_ret
    exact ⟨rfl, (hg.alloc _).drew⟩

end Go.Proofs.YthdmbbfppgenlaaGreat

/-
  The stock book: the closures that move goods between levels (printed by gen_mv15.py).
-/
import Derived.Test.YthfaaimmfdidnaaSf15
import Derived.Test.YthfaaimmfdidnaaInTurn
namespace Go.Proofs.Ythfaaimmfdidnaa
open Go.RowKit Go.WideShapes Go.ChangeShapes Go.ChangeAt Go.Deep
set_option linter.unusedVariables false

def allocL (a : Lv) (q : Int) : Lv := ⟨a.g, a.i, a.r, a.h - q, a.a + q, a.s, a.t⟩
set_option maxRecDepth 100000 in
set_option maxHeartbeats 8000000 in
theorem alloc_any (a : Lv) (q : Int) (w : World) (hB : Blk w a.g 38 (enV a)) (h1 : -9223372036854775808 ≤ a.h - q ∧ a.h - q ≤ 9223372036854775807) (h2 : -9223372036854775808 ≤ a.a + q ∧ a.a + q ≤ 9223372036854775807) :
    Calls Try.prog 30 #[.pointer (some ⟨a.g, 0, none⟩), .int .i64 q] w fun e w' => e = .returned (.tuple #[]) ∧ Blk w' a.g 38 (enV (allocL a q)) ∧ Touch (· = a.g) w w' := by
  have hw1 : IntKind.i64.wrap (a.h - q) = a.h - q := IntWalk.i64_in _ h1
  have hw2 : IntKind.i64.wrap (a.a + q) = a.a + q := IntWalk.i64_in _ h2
  obtain ⟨CB, hC0, hC1⟩ : ∃ CB : Bool → World → Prop, (∀ w', CB false w' ↔ (Blk w' a.g 38 (enV a) ∧ Touch (· = a.g) w w')) ∧ (∀ w', CB true w' ↔ (Blk w' a.g 38 ((enV a).setIfInBounds 2 (.int .i64 (a.h - q))) ∧ Touch (· = a.g) w w')) :=
    ⟨fun b w' => match b with | false => (Blk w' a.g 38 (enV a) ∧ Touch (· = a.g) w w') | true => (Blk w' a.g 38 ((enV a).setIfInBounds 2 (.int .i64 (a.h - q))) ∧ Touch (· = a.g) w w'), fun _ => Iff.rfl, fun _ => Iff.rfl⟩
  obtain ⟨C, hCd⟩ : ∃ C : World → Prop, ∀ w', C w' ↔ ∃ b, CB b w' := ⟨_, fun _ => Iff.rfl⟩
  obtain ⟨D, hDd⟩ : ∃ D : World → Prop, ∀ w', D w' ↔ CB false w' := ⟨_, fun _ => Iff.rfl⟩
  have HCC := hid (fun b w' (h : CB b w') => (hCd w').2 ⟨b, h⟩)
  have HDD := hid (fun w' (h : CB false w') => (hDd w').2 h)
  have hC : CB false w.drew := (hC0 _).2 ⟨hB.next (below_drewN (Below.refl _ _) 1), (Touch.refl _ _).drew⟩
  have hne : Nonempty (In C) := ⟨⟨w.drew, HCC.out _ _ hC⟩⟩
  have hnd : Nonempty (In D) := ⟨⟨w.drew, HDD.out _ hC⟩⟩
  have d1 : ∀ p : In D, p.w.cell? ⟨a.g, 2, none⟩ = some (.int .i64 a.h) := fun p => ((hC0 _).1 ((hDd _).1 p.h)).1.cell 2
  have g2 : ∀ p : In C, p.w.cell? ⟨a.g, 3, none⟩ = some (.int .i64 a.a) := fun p => by
    obtain ⟨b, hb⟩ := (hCd _).1 p.h
    cases b with
    | false => exact ((hC0 _).1 hb).1.cell 3
    | true => exact ((hC1 _).1 hb).1.cell 3
  have HC0 := hid hC0
  have HC1 := hid hC1
  clear hC0 hC1 hCd hDd hB h1 h2
  obtain ⟨g, hg⟩ : ∃ g, g = a.g := ⟨_, rfl⟩
  go_enter Try.func30, Try.ntmps30
  refine wp_region_turn CB 16 17 (by decide) (by kernel_rfl) (by kernel_rfl) hC ?_
  clear hC
  refine wpT_part C HCC.out 3 3 (by kernel_rfl) (by kernel_rfl) (by decide) ?_
  simp only [List.take_succ_cons, List.take_zero, List.drop_succ_cons, List.drop_zero]
  repeat (first | go_big_quiet_step (fail) | quiet_step (fail))
  refine wpQuiet_nil ?_
  refine wpT_call (by rfl) (.pointer (some ⟨a.g, 0, none⟩)) (by kernel_rfl) (fun bb wp hwp => ?_) ?_
  · first | exact ⟨hwp, rfl⟩ | (go_simp; first | exact hwp | exact ⟨hwp, rfl⟩)
  refine wpT_part0 D HDD.out 4 8 (by kernel_rfl) (by kernel_rfl) (by decide) (by kernel_rfl) ?_
  simp only [List.take_succ_cons, List.take_zero, List.drop_succ_cons, List.drop_zero]
  repeat (first | go_big_quiet_step (fail) | quiet_step (fail))
  refine wpQuiet_nil ?_
  refine wpT_part C HCC.out 1 9 (by kernel_rfl) (by kernel_rfl) (by decide) ?_
  simp only [List.take_succ_cons, List.take_zero, List.drop_succ_cons, List.drop_zero]
  repeat (first | go_big_quiet_step (fail) | quiet_step (fail))
  refine wpQuiet_nil ?_
  refine wpT_call (by rfl) (.pointer (some ⟨a.g, 0, none⟩)) (by kernel_rfl) (fun bb wp hwp => ?_) ?_
  · first | exact ⟨hwp, rfl⟩ | (go_simp; first | exact hwp | exact ⟨hwp, rfl⟩)
  refine wpT_part C HCC.out 4 14 (by kernel_rfl) (by kernel_rfl) (by decide) ?_
  simp only [List.take_succ_cons, List.take_zero, List.drop_succ_cons, List.drop_zero]
  repeat (first | go_big_quiet_step (fail) | quiet_step (fail))
  refine wpQuiet_nil ?_
  refine wpT_call (by rfl) (.pointer (some ⟨a.g, 0, none⟩)) (by kernel_rfl) (fun bb wp hwp => ?_) ?_
  · first | exact ⟨hwp, rfl⟩ | (go_simp; first | exact hwp | exact ⟨hwp, rfl⟩)
  refine wpT_part C HCC.out 1 16 (by kernel_rfl) (by kernel_rfl) (by decide) ?_
  simp only [List.take_succ_cons, List.take_zero, List.drop_succ_cons, List.drop_zero]
  repeat (first | go_big_quiet_step (fail) | quiet_step (fail))
  refine wpQuiet_nil ?_
  refine wpT_turn undef (by kernel_rfl) (fun wp hwp => ?_) ?_
  · obtain ⟨hB, hT⟩ := (HC0.out _).1 hwp
    have x1 := hB.cell 2
    have f1 := hB.free 2
    have lg := hB.lt
    have K : CB true (wp.setCell ⟨a.g, 2, none⟩ (.int .i64 (a.h - q))) := (HC1.out _).2 ⟨hB.set_ 2 _, hT.then (Touch.setCell wp a.g 2 _)⟩
    simp only [enV] at x1
    clear hB hT hwp
    go_simp
    exact ⟨K, rfl⟩
  · refine wpT_nil ?_
    intro wq hq
    obtain ⟨hB, hT⟩ := (HC1.out _).1 hq
    have x2 : wq.cell? ⟨a.g, 3, none⟩ = some (.int .i64 a.a) := hB.cell 3
    have f2 := hB.free 3
    have lg := hB.lt
    have HF := hid (And.intro (hB.set_ 3 (.int .i64 (a.a + q))) (hT.then (Touch.setCell wq a.g 3 (.int .i64 (a.a + q)))))
    clear hB hT hq d1 g2 hne hnd
    go_wp2_with fail
    go_end0
    exact ⟨rfl, HF.out.1, HF.out.2⟩
def freeL (a : Lv) (q : Int) : Lv := ⟨a.g, a.i, a.r, a.h + q, a.a - q, a.s, a.t⟩
set_option maxRecDepth 100000 in
set_option maxHeartbeats 8000000 in
theorem free_any (a : Lv) (q : Int) (w : World) (hB : Blk w a.g 38 (enV a)) (h1 : -9223372036854775808 ≤ a.h + q ∧ a.h + q ≤ 9223372036854775807) (h2 : -9223372036854775808 ≤ a.a - q ∧ a.a - q ≤ 9223372036854775807) :
    Calls Try.prog 35 #[.pointer (some ⟨a.g, 0, none⟩), .int .i64 q] w fun e w' => e = .returned (.tuple #[]) ∧ Blk w' a.g 38 (enV (freeL a q)) ∧ Touch (· = a.g) w w' := by
  have hw1 : IntKind.i64.wrap (a.h + q) = a.h + q := IntWalk.i64_in _ h1
  have hw2 : IntKind.i64.wrap (a.a - q) = a.a - q := IntWalk.i64_in _ h2
  obtain ⟨CB, hC0, hC1⟩ : ∃ CB : Bool → World → Prop, (∀ w', CB false w' ↔ (Blk w' a.g 38 (enV a) ∧ Touch (· = a.g) w w')) ∧ (∀ w', CB true w' ↔ (Blk w' a.g 38 ((enV a).setIfInBounds 2 (.int .i64 (a.h + q))) ∧ Touch (· = a.g) w w')) :=
    ⟨fun b w' => match b with | false => (Blk w' a.g 38 (enV a) ∧ Touch (· = a.g) w w') | true => (Blk w' a.g 38 ((enV a).setIfInBounds 2 (.int .i64 (a.h + q))) ∧ Touch (· = a.g) w w'), fun _ => Iff.rfl, fun _ => Iff.rfl⟩
  obtain ⟨C, hCd⟩ : ∃ C : World → Prop, ∀ w', C w' ↔ ∃ b, CB b w' := ⟨_, fun _ => Iff.rfl⟩
  obtain ⟨D, hDd⟩ : ∃ D : World → Prop, ∀ w', D w' ↔ CB false w' := ⟨_, fun _ => Iff.rfl⟩
  have HCC := hid (fun b w' (h : CB b w') => (hCd w').2 ⟨b, h⟩)
  have HDD := hid (fun w' (h : CB false w') => (hDd w').2 h)
  have hC : CB false w.drew := (hC0 _).2 ⟨hB.next (below_drewN (Below.refl _ _) 1), (Touch.refl _ _).drew⟩
  have hne : Nonempty (In C) := ⟨⟨w.drew, HCC.out _ _ hC⟩⟩
  have hnd : Nonempty (In D) := ⟨⟨w.drew, HDD.out _ hC⟩⟩
  have d1 : ∀ p : In D, p.w.cell? ⟨a.g, 2, none⟩ = some (.int .i64 a.h) := fun p => ((hC0 _).1 ((hDd _).1 p.h)).1.cell 2
  have g2 : ∀ p : In C, p.w.cell? ⟨a.g, 3, none⟩ = some (.int .i64 a.a) := fun p => by
    obtain ⟨b, hb⟩ := (hCd _).1 p.h
    cases b with
    | false => exact ((hC0 _).1 hb).1.cell 3
    | true => exact ((hC1 _).1 hb).1.cell 3
  have HC0 := hid hC0
  have HC1 := hid hC1
  clear hC0 hC1 hCd hDd hB h1 h2
  obtain ⟨g, hg⟩ : ∃ g, g = a.g := ⟨_, rfl⟩
  go_enter Try.func35, Try.ntmps35
  refine wp_region_turn CB 16 17 (by decide) (by kernel_rfl) (by kernel_rfl) hC ?_
  clear hC
  refine wpT_part C HCC.out 3 3 (by kernel_rfl) (by kernel_rfl) (by decide) ?_
  simp only [List.take_succ_cons, List.take_zero, List.drop_succ_cons, List.drop_zero]
  repeat (first | go_big_quiet_step (fail) | quiet_step (fail))
  refine wpQuiet_nil ?_
  refine wpT_call (by rfl) (.pointer (some ⟨a.g, 0, none⟩)) (by kernel_rfl) (fun bb wp hwp => ?_) ?_
  · first | exact ⟨hwp, rfl⟩ | (go_simp; first | exact hwp | exact ⟨hwp, rfl⟩)
  refine wpT_part0 D HDD.out 4 8 (by kernel_rfl) (by kernel_rfl) (by decide) (by kernel_rfl) ?_
  simp only [List.take_succ_cons, List.take_zero, List.drop_succ_cons, List.drop_zero]
  repeat (first | go_big_quiet_step (fail) | quiet_step (fail))
  refine wpQuiet_nil ?_
  refine wpT_part C HCC.out 1 9 (by kernel_rfl) (by kernel_rfl) (by decide) ?_
  simp only [List.take_succ_cons, List.take_zero, List.drop_succ_cons, List.drop_zero]
  repeat (first | go_big_quiet_step (fail) | quiet_step (fail))
  refine wpQuiet_nil ?_
  refine wpT_call (by rfl) (.pointer (some ⟨a.g, 0, none⟩)) (by kernel_rfl) (fun bb wp hwp => ?_) ?_
  · first | exact ⟨hwp, rfl⟩ | (go_simp; first | exact hwp | exact ⟨hwp, rfl⟩)
  refine wpT_part C HCC.out 4 14 (by kernel_rfl) (by kernel_rfl) (by decide) ?_
  simp only [List.take_succ_cons, List.take_zero, List.drop_succ_cons, List.drop_zero]
  repeat (first | go_big_quiet_step (fail) | quiet_step (fail))
  refine wpQuiet_nil ?_
  refine wpT_call (by rfl) (.pointer (some ⟨a.g, 0, none⟩)) (by kernel_rfl) (fun bb wp hwp => ?_) ?_
  · first | exact ⟨hwp, rfl⟩ | (go_simp; first | exact hwp | exact ⟨hwp, rfl⟩)
  refine wpT_part C HCC.out 1 16 (by kernel_rfl) (by kernel_rfl) (by decide) ?_
  simp only [List.take_succ_cons, List.take_zero, List.drop_succ_cons, List.drop_zero]
  repeat (first | go_big_quiet_step (fail) | quiet_step (fail))
  refine wpQuiet_nil ?_
  refine wpT_turn undef (by kernel_rfl) (fun wp hwp => ?_) ?_
  · obtain ⟨hB, hT⟩ := (HC0.out _).1 hwp
    have x1 := hB.cell 2
    have f1 := hB.free 2
    have lg := hB.lt
    have K : CB true (wp.setCell ⟨a.g, 2, none⟩ (.int .i64 (a.h + q))) := (HC1.out _).2 ⟨hB.set_ 2 _, hT.then (Touch.setCell wp a.g 2 _)⟩
    simp only [enV] at x1
    clear hB hT hwp
    go_simp
    exact ⟨K, rfl⟩
  · refine wpT_nil ?_
    intro wq hq
    obtain ⟨hB, hT⟩ := (HC1.out _).1 hq
    have x2 : wq.cell? ⟨a.g, 3, none⟩ = some (.int .i64 a.a) := hB.cell 3
    have f2 := hB.free 3
    have lg := hB.lt
    have HF := hid (And.intro (hB.set_ 3 (.int .i64 (a.a - q))) (hT.then (Touch.setCell wq a.g 3 (.int .i64 (a.a - q)))))
    clear hB hT hq d1 g2 hne hnd
    go_wp2_with fail
    go_end0
    exact ⟨rfl, HF.out.1, HF.out.2⟩
def shipL (a : Lv) (q : Int) : Lv := ⟨a.g, a.i, a.r, a.h, a.a - q, a.s + q, a.t⟩
set_option maxRecDepth 100000 in
set_option maxHeartbeats 8000000 in
theorem ship_any (a : Lv) (q : Int) (w : World) (hB : Blk w a.g 38 (enV a)) (h1 : -9223372036854775808 ≤ a.a - q ∧ a.a - q ≤ 9223372036854775807) (h2 : -9223372036854775808 ≤ a.s + q ∧ a.s + q ≤ 9223372036854775807) :
    Calls Try.prog 37 #[.pointer (some ⟨a.g, 0, none⟩), .int .i64 q] w fun e w' => e = .returned (.tuple #[]) ∧ Blk w' a.g 38 (enV (shipL a q)) ∧ Touch (· = a.g) w w' := by
  have hw1 : IntKind.i64.wrap (a.a - q) = a.a - q := IntWalk.i64_in _ h1
  have hw2 : IntKind.i64.wrap (a.s + q) = a.s + q := IntWalk.i64_in _ h2
  obtain ⟨CB, hC0, hC1⟩ : ∃ CB : Bool → World → Prop, (∀ w', CB false w' ↔ (Blk w' a.g 38 (enV a) ∧ Touch (· = a.g) w w')) ∧ (∀ w', CB true w' ↔ (Blk w' a.g 38 ((enV a).setIfInBounds 3 (.int .i64 (a.a - q))) ∧ Touch (· = a.g) w w')) :=
    ⟨fun b w' => match b with | false => (Blk w' a.g 38 (enV a) ∧ Touch (· = a.g) w w') | true => (Blk w' a.g 38 ((enV a).setIfInBounds 3 (.int .i64 (a.a - q))) ∧ Touch (· = a.g) w w'), fun _ => Iff.rfl, fun _ => Iff.rfl⟩
  obtain ⟨C, hCd⟩ : ∃ C : World → Prop, ∀ w', C w' ↔ ∃ b, CB b w' := ⟨_, fun _ => Iff.rfl⟩
  obtain ⟨D, hDd⟩ : ∃ D : World → Prop, ∀ w', D w' ↔ CB false w' := ⟨_, fun _ => Iff.rfl⟩
  have HCC := hid (fun b w' (h : CB b w') => (hCd w').2 ⟨b, h⟩)
  have HDD := hid (fun w' (h : CB false w') => (hDd w').2 h)
  have hC : CB false w.drew := (hC0 _).2 ⟨hB.next (below_drewN (Below.refl _ _) 1), (Touch.refl _ _).drew⟩
  have hne : Nonempty (In C) := ⟨⟨w.drew, HCC.out _ _ hC⟩⟩
  have hnd : Nonempty (In D) := ⟨⟨w.drew, HDD.out _ hC⟩⟩
  have d1 : ∀ p : In D, p.w.cell? ⟨a.g, 3, none⟩ = some (.int .i64 a.a) := fun p => ((hC0 _).1 ((hDd _).1 p.h)).1.cell 3
  have g2 : ∀ p : In C, p.w.cell? ⟨a.g, 4, none⟩ = some (.int .i64 a.s) := fun p => by
    obtain ⟨b, hb⟩ := (hCd _).1 p.h
    cases b with
    | false => exact ((hC0 _).1 hb).1.cell 4
    | true => exact ((hC1 _).1 hb).1.cell 4
  have HC0 := hid hC0
  have HC1 := hid hC1
  clear hC0 hC1 hCd hDd hB h1 h2
  obtain ⟨g, hg⟩ : ∃ g, g = a.g := ⟨_, rfl⟩
  go_enter Try.func37, Try.ntmps37
  refine wp_region_turn CB 16 17 (by decide) (by kernel_rfl) (by kernel_rfl) hC ?_
  clear hC
  refine wpT_part C HCC.out 3 3 (by kernel_rfl) (by kernel_rfl) (by decide) ?_
  simp only [List.take_succ_cons, List.take_zero, List.drop_succ_cons, List.drop_zero]
  repeat (first | go_big_quiet_step (fail) | quiet_step (fail))
  refine wpQuiet_nil ?_
  refine wpT_call (by rfl) (.pointer (some ⟨a.g, 0, none⟩)) (by kernel_rfl) (fun bb wp hwp => ?_) ?_
  · first | exact ⟨hwp, rfl⟩ | (go_simp; first | exact hwp | exact ⟨hwp, rfl⟩)
  refine wpT_part0 D HDD.out 4 8 (by kernel_rfl) (by kernel_rfl) (by decide) (by kernel_rfl) ?_
  simp only [List.take_succ_cons, List.take_zero, List.drop_succ_cons, List.drop_zero]
  repeat (first | go_big_quiet_step (fail) | quiet_step (fail))
  refine wpQuiet_nil ?_
  refine wpT_part C HCC.out 1 9 (by kernel_rfl) (by kernel_rfl) (by decide) ?_
  simp only [List.take_succ_cons, List.take_zero, List.drop_succ_cons, List.drop_zero]
  repeat (first | go_big_quiet_step (fail) | quiet_step (fail))
  refine wpQuiet_nil ?_
  refine wpT_call (by rfl) (.pointer (some ⟨a.g, 0, none⟩)) (by kernel_rfl) (fun bb wp hwp => ?_) ?_
  · first | exact ⟨hwp, rfl⟩ | (go_simp; first | exact hwp | exact ⟨hwp, rfl⟩)
  refine wpT_part C HCC.out 4 14 (by kernel_rfl) (by kernel_rfl) (by decide) ?_
  simp only [List.take_succ_cons, List.take_zero, List.drop_succ_cons, List.drop_zero]
  repeat (first | go_big_quiet_step (fail) | quiet_step (fail))
  refine wpQuiet_nil ?_
  refine wpT_call (by rfl) (.pointer (some ⟨a.g, 0, none⟩)) (by kernel_rfl) (fun bb wp hwp => ?_) ?_
  · first | exact ⟨hwp, rfl⟩ | (go_simp; first | exact hwp | exact ⟨hwp, rfl⟩)
  refine wpT_part C HCC.out 1 16 (by kernel_rfl) (by kernel_rfl) (by decide) ?_
  simp only [List.take_succ_cons, List.take_zero, List.drop_succ_cons, List.drop_zero]
  repeat (first | go_big_quiet_step (fail) | quiet_step (fail))
  refine wpQuiet_nil ?_
  refine wpT_turn undef (by kernel_rfl) (fun wp hwp => ?_) ?_
  · obtain ⟨hB, hT⟩ := (HC0.out _).1 hwp
    have x1 := hB.cell 3
    have f1 := hB.free 3
    have lg := hB.lt
    have K : CB true (wp.setCell ⟨a.g, 3, none⟩ (.int .i64 (a.a - q))) := (HC1.out _).2 ⟨hB.set_ 3 _, hT.then (Touch.setCell wp a.g 3 _)⟩
    simp only [enV] at x1
    clear hB hT hwp
    go_simp
    exact ⟨K, rfl⟩
  · refine wpT_nil ?_
    intro wq hq
    obtain ⟨hB, hT⟩ := (HC1.out _).1 hq
    have x2 : wq.cell? ⟨a.g, 4, none⟩ = some (.int .i64 a.s) := hB.cell 4
    have f2 := hB.free 4
    have lg := hB.lt
    have HF := hid (And.intro (hB.set_ 4 (.int .i64 (a.s + q))) (hT.then (Touch.setCell wq a.g 4 (.int .i64 (a.s + q)))))
    clear hB hT hq d1 g2 hne hnd
    go_wp2_with fail
    go_end0
    exact ⟨rfl, HF.out.1, HF.out.2⟩
def restockL (a : Lv) (q : Int) : Lv := ⟨a.g, a.i, a.r, a.h + q, a.a, a.s, a.t + q⟩
set_option maxRecDepth 100000 in
set_option maxHeartbeats 8000000 in
theorem restock_any (a : Lv) (q : Int) (w : World) (hB : Blk w a.g 38 (enV a)) (h1 : -9223372036854775808 ≤ a.t + q ∧ a.t + q ≤ 9223372036854775807) (h2 : -9223372036854775808 ≤ a.h + q ∧ a.h + q ≤ 9223372036854775807) :
    Calls Try.prog 38 #[.pointer (some ⟨a.g, 0, none⟩), .int .i64 q] w fun e w' => e = .returned (.tuple #[]) ∧ Blk w' a.g 38 (enV (restockL a q)) ∧ Touch (· = a.g) w w' := by
  have hw1 : IntKind.i64.wrap (a.t + q) = a.t + q := IntWalk.i64_in _ h1
  have hw2 : IntKind.i64.wrap (a.h + q) = a.h + q := IntWalk.i64_in _ h2
  obtain ⟨CB, hC0, hC1⟩ : ∃ CB : Bool → World → Prop, (∀ w', CB false w' ↔ (Blk w' a.g 38 (enV a) ∧ Touch (· = a.g) w w')) ∧ (∀ w', CB true w' ↔ (Blk w' a.g 38 ((enV a).setIfInBounds 5 (.int .i64 (a.t + q))) ∧ Touch (· = a.g) w w')) :=
    ⟨fun b w' => match b with | false => (Blk w' a.g 38 (enV a) ∧ Touch (· = a.g) w w') | true => (Blk w' a.g 38 ((enV a).setIfInBounds 5 (.int .i64 (a.t + q))) ∧ Touch (· = a.g) w w'), fun _ => Iff.rfl, fun _ => Iff.rfl⟩
  obtain ⟨C, hCd⟩ : ∃ C : World → Prop, ∀ w', C w' ↔ ∃ b, CB b w' := ⟨_, fun _ => Iff.rfl⟩
  obtain ⟨D, hDd⟩ : ∃ D : World → Prop, ∀ w', D w' ↔ CB false w' := ⟨_, fun _ => Iff.rfl⟩
  have HCC := hid (fun b w' (h : CB b w') => (hCd w').2 ⟨b, h⟩)
  have HDD := hid (fun w' (h : CB false w') => (hDd w').2 h)
  have hC : CB false w.drew := (hC0 _).2 ⟨hB.next (below_drewN (Below.refl _ _) 1), (Touch.refl _ _).drew⟩
  have hne : Nonempty (In C) := ⟨⟨w.drew, HCC.out _ _ hC⟩⟩
  have hnd : Nonempty (In D) := ⟨⟨w.drew, HDD.out _ hC⟩⟩
  have d1 : ∀ p : In D, p.w.cell? ⟨a.g, 5, none⟩ = some (.int .i64 a.t) := fun p => ((hC0 _).1 ((hDd _).1 p.h)).1.cell 5
  have g2 : ∀ p : In C, p.w.cell? ⟨a.g, 2, none⟩ = some (.int .i64 a.h) := fun p => by
    obtain ⟨b, hb⟩ := (hCd _).1 p.h
    cases b with
    | false => exact ((hC0 _).1 hb).1.cell 2
    | true => exact ((hC1 _).1 hb).1.cell 2
  have HC0 := hid hC0
  have HC1 := hid hC1
  clear hC0 hC1 hCd hDd hB h1 h2
  obtain ⟨g, hg⟩ : ∃ g, g = a.g := ⟨_, rfl⟩
  go_enter Try.func38, Try.ntmps38
  refine wp_region_turn CB 16 17 (by decide) (by kernel_rfl) (by kernel_rfl) hC ?_
  clear hC
  refine wpT_part C HCC.out 3 3 (by kernel_rfl) (by kernel_rfl) (by decide) ?_
  simp only [List.take_succ_cons, List.take_zero, List.drop_succ_cons, List.drop_zero]
  repeat (first | go_big_quiet_step (fail) | quiet_step (fail))
  refine wpQuiet_nil ?_
  refine wpT_call (by rfl) (.pointer (some ⟨a.g, 0, none⟩)) (by kernel_rfl) (fun bb wp hwp => ?_) ?_
  · first | exact ⟨hwp, rfl⟩ | (go_simp; first | exact hwp | exact ⟨hwp, rfl⟩)
  refine wpT_part0 D HDD.out 4 8 (by kernel_rfl) (by kernel_rfl) (by decide) (by kernel_rfl) ?_
  simp only [List.take_succ_cons, List.take_zero, List.drop_succ_cons, List.drop_zero]
  repeat (first | go_big_quiet_step (fail) | quiet_step (fail))
  refine wpQuiet_nil ?_
  refine wpT_part C HCC.out 1 9 (by kernel_rfl) (by kernel_rfl) (by decide) ?_
  simp only [List.take_succ_cons, List.take_zero, List.drop_succ_cons, List.drop_zero]
  repeat (first | go_big_quiet_step (fail) | quiet_step (fail))
  refine wpQuiet_nil ?_
  refine wpT_call (by rfl) (.pointer (some ⟨a.g, 0, none⟩)) (by kernel_rfl) (fun bb wp hwp => ?_) ?_
  · first | exact ⟨hwp, rfl⟩ | (go_simp; first | exact hwp | exact ⟨hwp, rfl⟩)
  refine wpT_part C HCC.out 4 14 (by kernel_rfl) (by kernel_rfl) (by decide) ?_
  simp only [List.take_succ_cons, List.take_zero, List.drop_succ_cons, List.drop_zero]
  repeat (first | go_big_quiet_step (fail) | quiet_step (fail))
  refine wpQuiet_nil ?_
  refine wpT_call (by rfl) (.pointer (some ⟨a.g, 0, none⟩)) (by kernel_rfl) (fun bb wp hwp => ?_) ?_
  · first | exact ⟨hwp, rfl⟩ | (go_simp; first | exact hwp | exact ⟨hwp, rfl⟩)
  refine wpT_part C HCC.out 1 16 (by kernel_rfl) (by kernel_rfl) (by decide) ?_
  simp only [List.take_succ_cons, List.take_zero, List.drop_succ_cons, List.drop_zero]
  repeat (first | go_big_quiet_step (fail) | quiet_step (fail))
  refine wpQuiet_nil ?_
  refine wpT_turn undef (by kernel_rfl) (fun wp hwp => ?_) ?_
  · obtain ⟨hB, hT⟩ := (HC0.out _).1 hwp
    have x1 := hB.cell 5
    have f1 := hB.free 5
    have lg := hB.lt
    have K : CB true (wp.setCell ⟨a.g, 5, none⟩ (.int .i64 (a.t + q))) := (HC1.out _).2 ⟨hB.set_ 5 _, hT.then (Touch.setCell wp a.g 5 _)⟩
    simp only [enV] at x1
    clear hB hT hwp
    go_simp
    exact ⟨K, rfl⟩
  · refine wpT_nil ?_
    intro wq hq
    obtain ⟨hB, hT⟩ := (HC1.out _).1 hq
    have x2 : wq.cell? ⟨a.g, 2, none⟩ = some (.int .i64 a.h) := hB.cell 2
    have f2 := hB.free 2
    have lg := hB.lt
    have HF := hid (And.intro (hB.set_ 2 (.int .i64 (a.h + q))) (hT.then (Touch.setCell wq a.g 2 (.int .i64 (a.h + q)))))
    clear hB hT hq d1 g2 hne hnd
    go_wp2_with fail
    go_end0
    exact ⟨rfl, HF.out.1, HF.out.2⟩

end Go.Proofs.Ythfaaimmfdidnaa

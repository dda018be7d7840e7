/-
  The document's book of money: Dun.
-/
import Derived.Test.YthdmbbfppgenlaaChR5
namespace Go.Proofs.Ythdmbbfppgenlaa
open Go.RowKit Go.WideShapes Go.ChangeShapes Go.ChangeAt Go.Deep
set_option linter.unusedVariables false

theorem set_same {α : Type} {l : List α} {k : Nat} {a : α} (h : l[k]? = some a) : l.set k a = l := by
  apply List.ext_getElem?
  intro i
  rw [List.getElem?_set]
  split
  · rename_i e
    subst e
    have hl := (List.getElem?_eq_some_iff.1 h).1
    rw [if_pos hl, h]
  · rfl
section
variable {base R cap : Nat} {A : Option Addr} {L : List Ca} {d d' : Int} {w w' w4 wr : World} {F : Int → Option Ca}
set_option maxRecDepth 100000 in
set_option maxHeartbeats 16000000 in
theorem rdun_any (h : IsRf base w R A cap L d) (hF : RelC F L) (hg : GoodG F d) (hl : L.length ≤ 140737488355328) (hbw : base ≤ w.heap.size) (o : Int) :
    Calls Try.prog 46 #[.pointer (some ⟨R, 0, none⟩), .int .i64 o] w fun e w' => e = .returned (.tuple #[.int .i64 (dunR F o).1, .bool (dunR F o).2.1]) ∧ PostR base R A L F o (dunR F o).2.2 d w w' := by
  have K := rfind_any h o hl
  rcases hF.at_ o with ⟨k, a, hkl, hk, hf, hao, hp⟩ | ⟨hf, hp⟩
  · obtain ⟨hfit, hwt⟩ := hg.fit o a hf
    obtain ⟨g, hA, hbg, hpr⟩ := h.elem hk
    subst hA
    rw [hp] at K
    have e : dunR F o = ((dunB a).lv, decide (0 < openC a) && decide ((dunB a).lv < 3), some (dunB a)) := by unfold dunR; rw [hf]
    rw [e]
    have KO := ropen_any a w hfit.small
    simp only [celC] at KO
    replace K := hid K
    have t0 : decide ((k : Int) < 0) = false := decide_eq_false (by omega)
    have c0 : w.cell? ⟨R, 0, none⟩ = some (.slice (some ⟨g, 0, none⟩) L.length cap) := h.blk.cell 0
    have p0 : w.cell? ⟨g, k * 9, none⟩ = some (.int .i64 a.o) := hpr.2 0 _ rfl
    have p1 : w.cell? ⟨g, k * 9 + 1, none⟩ = some (.int .i64 a.c) := hpr.2 1 _ rfl
    have p2 : w.cell? ⟨g, k * 9 + 2, none⟩ = some (.int .i64 a.st) := hpr.2 2 _ rfl
    have p3 : w.cell? ⟨g, k * 9 + 3, none⟩ = some (.int .i64 a.lv) := hpr.2 3 _ rfl
    have p4 : w.cell? ⟨g, k * 9 + 4, none⟩ = some (.int .i64 a.net) := hpr.2 4 _ rfl
    have p5 : w.cell? ⟨g, k * 9 + 5, none⟩ = some (.int .i64 a.tax) := hpr.2 5 _ rfl
    have p6 : w.cell? ⟨g, k * 9 + 6, none⟩ = some (.int .i64 a.ap) := hpr.2 6 _ rfl
    have p7 : w.cell? ⟨g, k * 9 + 7, none⟩ = some (.int .i64 a.wr) := hpr.2 7 _ rfl
    have p8 : w.cell? ⟨g, k * 9 + 8, none⟩ = some (.int .i64 a.dep) := hpr.2 8 _ rfl
    have HX := hid (And.intro h (And.intro hF (And.intro hk (And.intro hao (And.intro hpr hfit)))))
    obtain ⟨z, hz0⟩ : ∃ z, z = openC a := ⟨_, rfl⟩
    rw [← hz0] at KO
    replace KO := hid KO
    have HZ := hid hz0
    have hRg : g ≠ R := by have := h.lt; omega
    clear h hF hg hk hf hao hp hfit hwt hpr e
    by_cases z0 : 0 < z
    · have tz : decide (0 < z) = true := decide_eq_true z0
      by_cases hl3 : a.lv < 3
      · have tl : decide (a.lv < 3) = true := decide_eq_true hl3
        obtain ⟨b, hb0⟩ : ∃ b : Ca, b = { a with lv := a.lv + 1 } := ⟨_, rfl⟩
        have hdb : dunB a = b := by unfold dunB; rw [← hz0, if_pos ⟨z0, hl3⟩, hb0]
        rw [hdb, ← hz0, tz]
        have wl : IntKind.i64.wrap (a.lv + 1) = a.lv + 1 := IntWalk.i64_in _ ⟨by have := HX.out.2.2.2.2.2.l0; omega, by omega⟩
        simp only [Bool.true_and]
        clear hz0 hdb z0 hl3
        obtain ⟨t, ht⟩ : ∃ t, t = decide (a.lv + 1 < 3) := ⟨_, rfl⟩
        have hbl : b.lv = a.lv + 1 := by rw [hb0]
        rw [hbl, ← ht]
        have HBB := hid hb0
        have htt : decide (a.lv + 1 < 3) = t := ht.symm
        clear hb0 hbl ht
        go_enter Try.func46, Try.ntmps46
        go_wp2_with fail
        refine K.out.mono ?_
        rintro e w1 ⟨rfl, rfl⟩
        go_wp2_with fail
        refine KO.out.mono ?_
        rintro e w1 ⟨rfl, hb⟩
        clear c0 p0 p1 p2 p3 p4 p5 p6 p7 p8
        have h1 := HX.out.1.next hb
        have hpr1 := HX.out.2.2.2.2.1.next hb
        have c0 : w1.cell? ⟨R, 0, none⟩ = some (.slice (some ⟨g, 0, none⟩) L.length cap) := h1.blk.cell 0
        have p3 : w1.cell? ⟨g, k * 9 + 3, none⟩ = some (.int .i64 a.lv) := hpr1.2 3 _ rfl
        have lg := hpr1.1
        have lR := h1.blk.lt
        have f3 := own_free h1.own (k * 9 + 3)
        have hbd : Below w1.heap.size w1 w1.drew := below_drewN (Below.refl _ _) 1
        have hO := own_field enC9_len (h1.next hbd).own (k := k) (j := 3) (x := a) (x' := b) (v := .int .i64 (a.lv + 1)) HX.out.2.2.1 (by omega) (by rw [HBB.out]; rfl)
        have hB := (h1.next hbd).blk.far (p := ⟨g, k * 9 + 3, none⟩) hRg.symm (.int .i64 (a.lv + 1))
        have HO := hid (And.intro hO.1 (And.intro hB ((Touch.of_below (S := RT w.heap.size R (some ⟨g, 0, none⟩)) hb).drew.then ((Touch.of_grown hO.2).mono (fun k' hk' => .inr (.inl (by rw [hk']; rfl)))))))
        clear h1 hpr1 hbd hO hB
        go_wp2_with fail
        refine wp_tail 16 (by kernel_rfl) (by kernel_rfl) ?_
        simp only [List.take_succ_cons, List.take_zero, List.drop_succ_cons, List.drop_zero]
        repeat still_step
        refine wpStill_nil ?_
        go_wp2_with fail
        have c05 : (w1.setCell ⟨g, k * 9 + 3, none⟩ (.int .i64 (a.lv + 1))).drew.cell? ⟨R, 0, none⟩ = some (.slice (some ⟨g, 0, none⟩) L.length cap) := HO.out.2.1.cell 0
        have p35 : (w1.setCell ⟨g, k * 9 + 3, none⟩ (.int .i64 (a.lv + 1))).drew.cell? ⟨g, k * 9 + 3, none⟩ = some (.int .i64 (a.lv + 1)) := by
          have e1 := own_cells enC9_len HO.out.1 (k := k) (j := 3) (x := b) (u := .int .i64 (a.lv + 1)) (by rw [List.getElem?_set_self hkl]) (by rw [HBB.out]; rfl)
          exact e1
        have lR5 : R < (w1.setCell ⟨g, k * 9 + 3, none⟩ (.int .i64 (a.lv + 1))).drew.heap.size := HO.out.2.1.lt
        have lg5 : g < (w1.setCell ⟨g, k * 9 + 3, none⟩ (.int .i64 (a.lv + 1))).drew.heap.size := (HO.out.1.lt g rfl).2
        have HO5 : Hid ((w1.setCell ⟨g, k * 9 + 3, none⟩ (.int .i64 (a.lv + 1))).drew.ownsRow base 109 9 (.slice (some ⟨g, 0, none⟩) (L.set k b).length cap) (L.set k b).length ((L.set k b).flatMap enC9) ∧ Blk (w1.setCell ⟨g, k * 9 + 3, none⟩ (.int .i64 (a.lv + 1))).drew R 52 #[.slice (some ⟨g, 0, none⟩) L.length cap, .int .i64 d] ∧ Touch (RT w.heap.size R (some ⟨g, 0, none⟩)) w (w1.setCell ⟨g, k * 9 + 3, none⟩ (.int .i64 (a.lv + 1))).drew) := hid HO.out
        clear HO f3 c0 p3 lg lR
        generalize (w1.setCell ⟨g, k * 9 + 3, none⟩ (.int .i64 (a.lv + 1))).drew = w5 at c05 p35 lR5 lg5 HO5 ⊢
        obtain ⟨C, hCd⟩ : ∃ C : World → Prop, ∀ w', C w' ↔ Below w5.heap.size w5 w' := ⟨_, fun _ => Iff.rfl⟩
        have hC : C w5.drew := (hCd _).2 ((Below.refl _ _).drew)
        have q0 : ∀ p : In C, p.w.cell? ⟨R, 0, none⟩ = some (.slice (some ⟨g, 0, none⟩) L.length cap) := fun p => (((hCd _).1 p.h).cell (p := ⟨R, 0, none⟩) lR5).trans c05
        have q3 : ∀ p : In C, p.w.cell? ⟨g, k * 9 + 3, none⟩ = some (.int .i64 (a.lv + 1)) := fun p => (((hCd _).1 p.h).cell (p := ⟨g, k * 9 + 3, none⟩) lg5).trans p35
        have HC := hid hCd
        clear hCd
        go_wp2_with fail
        refine wp_region_in C (by kernel_rfl) (by kernel_rfl) hC ?_
        intro hne
        clear hC
        repeat (first | go_big_quiet_step (fail) | quiet_step (fail))
        refine wpQuiet_nil ?_
        intro wq hq
        have hb9 := (HC.out _).1 hq
        clear q0 q3 hne hq HC
        go_wp2_with fail
        go_ret2
        exact ⟨by simp, PostR.setK HX.out.2.1 HX.out.2.2.1 (by rw [HBB.out]) HX.out.2.2.2.1 HX.out.1.lt (HO5.out.2.1.next hb9) (HO5.out.1.kept (grown_of_below hb9 none) (by simp [Value.ownBlock])) (HO5.out.2.2.then (.of_below hb9))⟩
      · have tl : decide (a.lv < 3) = false := decide_eq_false hl3
        have hdb : dunB a = a := by unfold dunB; rw [if_neg (fun e => hl3 e.2)]
        rw [hdb, ← hz0, tz, tl]
        clear hz0 hdb z0 hl3
        go_enter Try.func46, Try.ntmps46
        go_wp2_with fail
        refine K.out.mono ?_
        rintro e w1 ⟨rfl, rfl⟩
        go_wp2_with fail
        refine KO.out.mono ?_
        rintro e w1 ⟨rfl, hb⟩
        clear c0 p0 p1 p2 p3 p4 p5 p6 p7 p8
        have h1 := HX.out.1.next hb
        have hpr1 := HX.out.2.2.2.2.1.next hb
        have c0 : w1.cell? ⟨R, 0, none⟩ = some (.slice (some ⟨g, 0, none⟩) L.length cap) := h1.blk.cell 0
        have p3 : w1.cell? ⟨g, k * 9 + 3, none⟩ = some (.int .i64 a.lv) := hpr1.2 3 _ rfl
        have lg := hpr1.1
        have lR := h1.blk.lt
        have c05 := c0
        have p35 := p3
        have lR5 := lR
        have lg5 := lg
        clear h1 hpr1
        obtain ⟨C, hCd⟩ : ∃ C : World → Prop, ∀ w', C w' ↔ Below w1.heap.size w1 w' := ⟨_, fun _ => Iff.rfl⟩
        have hC : C w1.drew := (hCd _).2 ((Below.refl _ _).drew)
        have q0 : ∀ p : In C, p.w.cell? ⟨R, 0, none⟩ = some (.slice (some ⟨g, 0, none⟩) L.length cap) := fun p => (((hCd _).1 p.h).cell (p := ⟨R, 0, none⟩) lR5).trans c05
        have q3 : ∀ p : In C, p.w.cell? ⟨g, k * 9 + 3, none⟩ = some (.int .i64 a.lv) := fun p => (((hCd _).1 p.h).cell (p := ⟨g, k * 9 + 3, none⟩) lg5).trans p35
        have HC := hid hCd
        clear hCd
        go_wp2_with fail
        refine wp_region_in C (by kernel_rfl) (by kernel_rfl) hC ?_
        intro hne
        clear hC
        repeat (first | go_big_quiet_step (fail) | quiet_step (fail))
        refine wpQuiet_nil ?_
        intro wq hq
        have hb9 := (HC.out _).1 hq
        clear q0 q3 hne hq HC
        go_wp2_with fail
        go_ret2
        exact ⟨by simp, PostR.setK HX.out.2.1 HX.out.2.2.1 rfl HX.out.2.2.2.1 HX.out.1.lt ((HX.out.1.next (bthen hb hb9)).blk) (by have := (HX.out.1.next (bthen hb hb9)).own; rw [show L.set k a = L from set_same HX.out.2.2.1]; exact this) (.of_below (bthen hb hb9))⟩
    · have tz : decide (0 < z) = false := decide_eq_false z0
      have hdb : dunB a = a := by unfold dunB; rw [← hz0, if_neg (fun e => z0 e.1)]
      rw [hdb, ← hz0, tz, Bool.false_and]
      clear hz0 hdb z0
      go_enter Try.func46, Try.ntmps46
      go_wp2_with fail
      refine K.out.mono ?_
      rintro e w1 ⟨rfl, rfl⟩
      go_wp2_with fail
      refine KO.out.mono ?_
      rintro e w1 ⟨rfl, hb⟩
      clear c0 p0 p1 p2 p3 p4 p5 p6 p7 p8
      have h1 := HX.out.1.next hb
      have hpr1 := HX.out.2.2.2.2.1.next hb
      have c0 : w1.cell? ⟨R, 0, none⟩ = some (.slice (some ⟨g, 0, none⟩) L.length cap) := h1.blk.cell 0
      have p3 : w1.cell? ⟨g, k * 9 + 3, none⟩ = some (.int .i64 a.lv) := hpr1.2 3 _ rfl
      have lg := hpr1.1
      have lR := h1.blk.lt
      have c05 := c0
      have p35 := p3
      have lR5 := lR
      have lg5 := lg
      clear h1 hpr1
      obtain ⟨C, hCd⟩ : ∃ C : World → Prop, ∀ w', C w' ↔ Below w1.heap.size w1 w' := ⟨_, fun _ => Iff.rfl⟩
      have hC : C w1.drew := (hCd _).2 ((Below.refl _ _).drew)
      have q0 : ∀ p : In C, p.w.cell? ⟨R, 0, none⟩ = some (.slice (some ⟨g, 0, none⟩) L.length cap) := fun p => (((hCd _).1 p.h).cell (p := ⟨R, 0, none⟩) lR5).trans c05
      have q3 : ∀ p : In C, p.w.cell? ⟨g, k * 9 + 3, none⟩ = some (.int .i64 a.lv) := fun p => (((hCd _).1 p.h).cell (p := ⟨g, k * 9 + 3, none⟩) lg5).trans p35
      have HC := hid hCd
      clear hCd
      go_wp2_with fail
      refine wp_region_in C (by kernel_rfl) (by kernel_rfl) hC ?_
      intro hne
      clear hC
      repeat (first | go_big_quiet_step (fail) | quiet_step (fail))
      refine wpQuiet_nil ?_
      intro wq hq
      have hb9 := (HC.out _).1 hq
      clear q0 q3 hne hq HC
      go_wp2_with fail
      go_ret2
      exact ⟨by simp, PostR.setK HX.out.2.1 HX.out.2.2.1 rfl HX.out.2.2.2.1 HX.out.1.lt ((HX.out.1.next (bthen hb hb9)).blk) (by have := (HX.out.1.next (bthen hb hb9)).own; rw [show L.set k a = L from set_same HX.out.2.2.1]; exact this) (.of_below (bthen hb hb9))⟩
  · have e : dunR F o = (0, false, none) := by unfold dunR; rw [hf]
    rw [e]
    rw [hp] at K
    replace K := hid K
    have H := hid (And.intro h hF)
    clear h hF hg hf hp e
    go_enter Try.func46, Try.ntmps46
    go_wp2_with fail
    refine K.out.mono ?_
    rintro e w1 ⟨rfl, rfl⟩
    go_wp2_with fail
    go_ret2
    exact ⟨rfl, PostR.same H.out.1 H.out.2 o (Below.refl _ _)⟩
end

end Go.Proofs.Ythdmbbfppgenlaa

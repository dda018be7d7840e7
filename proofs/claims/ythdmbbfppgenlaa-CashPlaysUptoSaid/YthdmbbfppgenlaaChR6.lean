/-
  The document's book of money: Memo.
-/
import Derived.Test.YthdmbbfppgenlaaChR5
namespace Go.Proofs.Ythdmbbfppgenlaa
open Go.RowKit Go.WideShapes Go.ChangeShapes Go.ChangeAt Go.Deep
set_option linter.unusedVariables false

section
variable {base R cap : Nat} {A : Option Addr} {L : List Ca} {d d' : Int} {w w' w4 wr : World} {F : Int → Option Ca}
set_option maxRecDepth 100000 in
set_option maxHeartbeats 16000000 in
theorem rmem_any (h : IsRf base w R A cap L d) (hF : RelC F L) (hg : GoodG F d) (hl : L.length ≤ 140737488355328) (hbw : base ≤ w.heap.size) (o : Int) :
    Calls Try.prog 44 #[.pointer (some ⟨R, 0, none⟩), .int .i64 o] w fun e w' => e = .returned (.int .i64 (memR F d o).code) ∧ PostR base R A L F o (memR F d o).acc (memR F d o).d w w' := by
  have K := rfind_any h o hl
  rcases hF.at_ o with ⟨k, a, hkl, hk, hf, hao, hp⟩ | ⟨hf, hp⟩
  · obtain ⟨hfit, hwt⟩ := hg.fit o a hf
    obtain ⟨g, hA, hbg, hpr⟩ := h.elem hk
    subst hA
    rw [hp] at K
    have e : memR F d o = if a.st ≠ 1 then noC 130 d else if 576460752303423488 - (a.net + a.tax) < d then noC 72 d else ⟨false, 0, some (memB a), d + (a.net + a.tax)⟩ := by unfold memR; rw [hf]
    rw [e]
    replace K := hid K
    have t0 : decide ((k : Int) < 0) = false := decide_eq_false (by omega)
    have c0 : w.cell? ⟨R, 0, none⟩ = some (.slice (some ⟨g, 0, none⟩) L.length cap) := h.blk.cell 0
    have p0 : w.cell? ⟨g, k * 9, none⟩ = some (.int .i64 a.o) := hpr.2 0 _ rfl
    have p1 : w.cell? ⟨g, k * 9 + 1, none⟩ = some (.int .i64 a.c) := hpr.2 1 _ rfl
    have p2 : w.cell? ⟨g, k * 9 + 2, none⟩ = some (.int .i64 a.st) := hpr.2 2 _ rfl
    have p3 : w.cell? ⟨g, k * 9 + 3, none⟩ = some (.int .i64 a.lv) := hpr.2 3 _ rfl
    have p4 : w.cell? ⟨g, k * 9 + 4, none⟩ = some (.int .i64 a.net) := hpr.2 4 _ rfl
    have p5 : w.cell? ⟨g, k * 9 + 5, none⟩ = some (.int .i64 a.tax) := hpr.2 5 _ rfl
    have p6 : w.cell? ⟨g, k * 9 + 6, none⟩ = some (.int .i64 a.ap) := hpr.2 6 _ rfl
    have p7 : w.cell? ⟨g, k * 9 + 7, none⟩ = some (.int .i64 a.wr) := hpr.2 7 _ rfl
    have p8 : w.cell? ⟨g, k * 9 + 8, none⟩ = some (.int .i64 a.dep) := hpr.2 8 _ rfl
    have lR : R < w.heap.size := h.blk.lt
    have lg : g < w.heap.size := hpr.1
    have HX := hid (And.intro h (And.intro hF (And.intro hk (And.intro hao (And.intro hfit hpr)))))
    have HG := hid (And.intro hg.d0 hg.d1)
    clear h hF hg hk hf hao hp hfit hwt hpr e
    by_cases hs : a.st = 1
    · rw [if_neg (fun e => e hs)]
      have ts : (a.st != 1) = false := by simp [hs]
      have w0 : IntKind.i64.wrap (d + a.net) = d + a.net := IntWalk.i64_in _ ⟨by have := HG.out; have := HX.out.2.2.2.2.1.n0; omega, by have := HG.out; have := HX.out.2.2.2.2.1.n1; omega⟩
      have w00 : IntKind.i64.wrap (d + a.net + a.tax) = d + a.net + a.tax := IntWalk.i64_in _ ⟨by have := HG.out; have := HX.out.2.2.2.2.1.n0; have := HX.out.2.2.2.2.1.t0; omega, by have := HG.out; have := HX.out.2.2.2.2.1.n1; have := HX.out.2.2.2.2.1.t1; omega⟩
      have wda : IntKind.i64.wrap (a.dep + a.ap) = a.dep + a.ap := IntWalk.i64_in _ ⟨by have := HX.out.2.2.2.2.1.d0; have := HX.out.2.2.2.2.1.p0; omega, by have := HX.out.2.2.2.2.1.d1; have := HX.out.2.2.2.2.1.small.p; omega⟩
      have HSS := hid hs
      obtain ⟨W1, hW1⟩ : ∃ W1, W1 = (w.alloc (.cells #[.int .i64 a.o, .int .i64 a.c, .int .i64 a.st, .int .i64 a.lv, .int .i64 a.net, .int .i64 a.tax, .int .i64 a.ap, .int .i64 a.wr, .int .i64 a.dep] 109)) := ⟨_, rfl⟩
      obtain ⟨G1, hG1⟩ : ∃ G1, G1 = w.heap.size := ⟨_, rfl⟩
      have hB1 : Blk W1 G1 109 (celC a) := by rw [hW1, hG1]; exact Blk.new _ _ _
      have hb1 : Below w.heap.size w W1 := by rw [hW1]; exact (Below.refl _ _).alloc (Nat.le_refl _) _
      have hGR : G1 ≠ R := by omega
      have HW1 := hid hW1
      have HG1 := hid hG1
      have hbd : Below w.heap.size w W1.drew := hb1.trans ((below_drewN (Below.refl _ _) 1 : Below W1.heap.size W1 W1.drew).mono hb1.size)
      have hB2 : Blk W1.drew G1 109 (celC a) := hB1.next (below_drewN (Below.refl _ _) 1)
      obtain ⟨W2, hW2⟩ : ∃ W2, W2 = W1.drew := ⟨_, rfl⟩
      rw [← hW2] at hbd hB2
      have h2 := HX.out.1.next hbd
      obtain ⟨C, hCd⟩ : ∃ C : World → Prop, ∀ w', C w' ↔ w' = W2 := ⟨_, fun _ => Iff.rfl⟩
      have hC : C W1.drew := (hCd _).2 hW2.symm
      have q1 : ∀ p : In C, p.w.cell? ⟨R, 1, none⟩ = some (.int .i64 d) := fun p => by rw [(hCd _).1 p.h]; exact h2.blk.cell 1
      have q4 : ∀ p : In C, p.w.cell? ⟨G1, 4, none⟩ = some (.int .i64 a.net) := fun p => by rw [(hCd _).1 p.h]; exact hB2.cell 4
      have q5 : ∀ p : In C, p.w.cell? ⟨G1, 5, none⟩ = some (.int .i64 a.tax) := fun p => by rw [(hCd _).1 p.h]; exact hB2.cell 5
      have HC := hid hCd
      have H2 := hid (And.intro h2 (And.intro hbd hB2))
      clear hs hW1 hG1 hB1 hb1 hbd hB2 hW2 h2 hCd
      by_cases hr : 576460752303423488 - (a.net + a.tax) < d
      · rw [if_pos hr]
        have tr : decide (576460752303423488 < d + a.net + a.tax) = true := decide_eq_true (by omega)
        clear hr
        go_enter Try.func44, Try.ntmps44
        go_wp2_with fail
        refine K.out.mono ?_
        rintro e w1 ⟨rfl, rfl⟩
        go_wp2_with fail
        rw [← HW1.out, ← HG1.out]
        refine wp_region_in C (by kernel_rfl) (by kernel_rfl) hC ?_
        intro hne
        clear hC c0 p0 p1 p2 p3 p4 p5 p6 p7 p8
        repeat (first | go_big_quiet_step (fail) | quiet_step (fail))
        refine wpQuiet_nil ?_
        intro wq hq
        obtain rfl := (HC.out _).1 hq
        clear q1 q4 q5 hne hq HC
        go_wp2_with fail
        go_ret
        exact ⟨rfl, PostR.same HX.out.1 HX.out.2.1 o H2.out.2.1⟩
      · rw [if_neg hr]
        have tr : decide (576460752303423488 < d + a.net + a.tax) = false := decide_eq_false (by omega)
        have HR := hid hr
        clear hr
        go_enter Try.func44, Try.ntmps44
        go_wp2_with fail
        refine K.out.mono ?_
        rintro e w1 ⟨rfl, rfl⟩
        go_wp2_with fail
        rw [← HW1.out, ← HG1.out]
        refine wp_region_in C (by kernel_rfl) (by kernel_rfl) hC ?_
        intro hne
        clear hC c0 p0 p1 p2 p3 p4 p5 p6 p7 p8
        repeat (first | go_big_quiet_step (fail) | quiet_step (fail))
        refine wpQuiet_nil ?_
        intro wq hq
        obtain rfl := (HC.out _).1 hq
        clear q1 q4 q5 hne hq HC
        have c1 : wq.cell? ⟨R, 1, none⟩ = some (.int .i64 d) := H2.out.1.blk.cell 1
        have fR := H2.out.1.blk.free 1
        have lR2 := H2.out.1.blk.lt
        have e4 : wq.cell? ⟨G1, 4, none⟩ = some (.int .i64 a.net) := H2.out.2.2.cell 4
        have e5 : wq.cell? ⟨G1, 5, none⟩ = some (.int .i64 a.tax) := H2.out.2.2.cell 5
        have lG := H2.out.2.2.lt
        go_wp2_with fail
        refine wp_tail 13 (by kernel_rfl) (by kernel_rfl) ?_
        simp only [List.take_succ_cons, List.take_zero, List.drop_succ_cons, List.drop_zero]
        repeat still_step
        refine wpStill_nil ?_
        have hbq : Below wq.heap.size wq wq.drew := below_drewN (Below.refl _ _) 1
        have hG3 : Blk (wq.drew.setCell ⟨R, 1, none⟩ (.int .i64 (d + a.net + a.tax))) G1 109 (celC a) := (H2.out.2.2.next hbq).far hGR _
        have hT3 : Touch (· = R) w (wq.drew.setCell ⟨R, 1, none⟩ (.int .i64 (d + a.net + a.tax))) := ((Touch.of_below H2.out.2.1).then (.of_below hbq)).then (Touch.setCell _ R 1 _)
        have hR3 : Blk (wq.drew.setCell ⟨R, 1, none⟩ (.int .i64 (d + a.net + a.tax))) R 52 #[.slice (some ⟨g, 0, none⟩) L.length cap, .int .i64 (d + a.net + a.tax)] := ((H2.out.1.next hbq).blk.set_ 1 (.int .i64 (d + a.net + a.tax)))
        have H3 := hid (And.intro hG3 (And.intro hT3 hR3))
        clear hbq hG3 hT3 hR3
        have e8 : wq.cell? ⟨G1, 8, none⟩ = some (.int .i64 a.dep) := H2.out.2.2.cell 8
        have e6 : wq.cell? ⟨G1, 6, none⟩ = some (.int .i64 a.ap) := H2.out.2.2.cell 6
        have e7 : wq.cell? ⟨G1, 7, none⟩ = some (.int .i64 a.wr) := H2.out.2.2.cell 7
        have e2 : wq.cell? ⟨G1, 2, none⟩ = some (.int .i64 a.st) := H2.out.2.2.cell 2
        have f8 := H2.out.2.2.free 8
        have f6 := H2.out.2.2.free 6
        have f7 := H2.out.2.2.free 7
        have f2 := H2.out.2.2.free 2
        go_wp2_with fail
        have hG4 : Blk ((((((wq.setCell ⟨R, 1, none⟩ (.int .i64 (d + a.net + a.tax))).setCell ⟨G1, 8, none⟩ (.int .i64 (a.dep + a.ap))).setCell ⟨G1, 6, none⟩ (.int .i64 0)).setCell ⟨G1, 7, none⟩ (.int .i64 0)).setCell ⟨G1, 2, none⟩ (.int .i64 2)).drew) G1 109 (celC (memB a)) := (((H3.out.1.set_ 8 (.int .i64 (a.dep + a.ap))).set_ 6 (.int .i64 0)).set_ 7 (.int .i64 0)).set_ 2 (.int .i64 2)
        have hT4 : Touch (· = R) w ((((((wq.setCell ⟨R, 1, none⟩ (.int .i64 (d + a.net + a.tax))).setCell ⟨G1, 8, none⟩ (.int .i64 (a.dep + a.ap))).setCell ⟨G1, 6, none⟩ (.int .i64 0)).setCell ⟨G1, 7, none⟩ (.int .i64 0)).setCell ⟨G1, 2, none⟩ (.int .i64 2)).drew) := H3.out.2.1.trans ((((Touch.setCell _ G1 8 (.int .i64 (a.dep + a.ap))).then (Touch.setCell _ G1 6 (.int .i64 0))).then (Touch.setCell _ G1 7 (.int .i64 0))).then (Touch.setCell _ G1 2 (.int .i64 2))) (fun k' hk' => .inr (by rw [hk', HG1.out]; exact Nat.le_refl _))
        have hR4 : Blk ((((((wq.setCell ⟨R, 1, none⟩ (.int .i64 (d + a.net + a.tax))).setCell ⟨G1, 8, none⟩ (.int .i64 (a.dep + a.ap))).setCell ⟨G1, 6, none⟩ (.int .i64 0)).setCell ⟨G1, 7, none⟩ (.int .i64 0)).setCell ⟨G1, 2, none⟩ (.int .i64 2)).drew) R 52 #[.slice (some ⟨g, 0, none⟩) L.length cap, .int .i64 (d + a.net + a.tax)] := (((H3.out.2.2.far (p := ⟨G1, 8, none⟩) hGR.symm _).far (p := ⟨G1, 6, none⟩) hGR.symm _).far (p := ⟨G1, 7, none⟩) hGR.symm _).far (p := ⟨G1, 2, none⟩) hGR.symm _
        have h4 := HX.out.1.turn hT4 (fun k' hk' => .inl hk') hR4
        clear e2 e4 e5 e6 e7 e8 f2 f6 f7 f8 c1 fR lR2 lG lR lg w0 w00 wda H3 hR4
        generalize (((((wq.setCell ⟨R, 1, none⟩ (.int .i64 (d + a.net + a.tax))).setCell ⟨G1, 8, none⟩ (.int .i64 (a.dep + a.ap))).setCell ⟨G1, 6, none⟩ (.int .i64 0)).setCell ⟨G1, 7, none⟩ (.int .i64 0)).setCell ⟨G1, 2, none⟩ (.int .i64 2)).drew = w4 at hG4 hT4 h4 ⊢
        obtain ⟨b, hb0⟩ : ∃ b, b = memB a := ⟨_, rfl⟩
        have HBB := hid hb0
        rw [← hb0] at hG4
        have c0 : w4.cell? ⟨R, 0, none⟩ = some (.slice (some ⟨g, 0, none⟩) L.length cap) := h4.blk.cell 0
        have e0 : w4.cell? ⟨G1, 0, none⟩ = some (.int .i64 b.o) := hG4.cell 0
        have e1 : w4.cell? ⟨G1, 1, none⟩ = some (.int .i64 b.c) := hG4.cell 1
        have e2 : w4.cell? ⟨G1, 2, none⟩ = some (.int .i64 b.st) := hG4.cell 2
        have e3 : w4.cell? ⟨G1, 3, none⟩ = some (.int .i64 b.lv) := hG4.cell 3
        have e4 : w4.cell? ⟨G1, 4, none⟩ = some (.int .i64 b.net) := hG4.cell 4
        have e5 : w4.cell? ⟨G1, 5, none⟩ = some (.int .i64 b.tax) := hG4.cell 5
        have e6 : w4.cell? ⟨G1, 6, none⟩ = some (.int .i64 b.ap) := hG4.cell 6
        have e7 : w4.cell? ⟨G1, 7, none⟩ = some (.int .i64 b.wr) := hG4.cell 7
        have e8 : w4.cell? ⟨G1, 8, none⟩ = some (.int .i64 b.dep) := hG4.cell 8
        have lG := hG4.lt
        have lR := h4.blk.lt
        have hbd : Below w4.heap.size w4 w4.drew := below_drewN (Below.refl _ _) 1
        obtain ⟨g', hA', _, hpr4⟩ := h4.elem HX.out.2.2.1
        obtain rfl : g' = g := by injection hA' with e; injection e with e; exact e.symm
        have HTH := hid (show (w4.drew).there g' (k * 9) 9 from fun j hj => ⟨by
          obtain ⟨u, hu⟩ : ∃ u, (enC9 a)[j]? = some u := ⟨_, List.getElem?_eq_getElem (by rw [enC9_len]; exact hj)⟩
          have := hpr4.2 j u hu
          show (w4.cell? ⟨g', k * 9 + j, none⟩).isSome = true
          rw [this]; rfl, own_free h4.own (k * 9 + j)⟩)
        have hJ := own_set enC9_len (h4.next hbd).own (k := k) hkl b
        have lg := hpr4.1
        have HJ := hid (And.intro hJ (And.intro ((h4.next hbd).blk) ((hT4.mono (fun k' hk' => (.inl hk' : RT w.heap.size R (some ⟨g', 0, none⟩) k'))).then (.of_below hbd))))
        have hgR : g' ≠ R := by have h1 := h4.lt; have h2 := (h4.own.lt g' rfl).1; omega
        clear hb0 hG4 hT4 h4 hbd hpr4 hJ hA'
        refine wp_tail 7 (by kernel_rfl) (by kernel_rfl) ?_
        simp only [List.take_succ_cons, List.take_zero, List.drop_succ_cons, List.drop_zero]
        repeat still_step
        refine wpStill_nil ?_
        refine wpList_store_mid rfl 109 _ _ rfl g' (k * 9) #[.int .i64 b.o, .int .i64 b.c, .int .i64 b.st, .int .i64 b.lv, .int .i64 b.net, .int .i64 b.tax, .int .i64 b.ap, .int .i64 b.wr, .int .i64 b.dep] rfl rfl HTH.out (by kernel_rfl) (by simp [Value.oneCell']) ?_
        rw [setCells_many]
        clear c0 e0 e1 e2 e3 e4 e5 e6 e7 e8 lG lR lg
        go_wp2_with fail
        go_ret
        have hTt := Touch.of_grown HJ.out.1.2
        have hE : d + a.net + a.tax = d + (a.net + a.tax) := by omega
        have hfin : PostR base R (some ⟨g', 0, none⟩) L F o (some b) (d + a.net + a.tax) w (storeMany w4.drew g' (k * 9) (enC9 b)) := PostR.setK HX.out.2.1 HX.out.2.2.1 (by rw [HBB.out]; rfl) HX.out.2.2.2.1 HX.out.1.lt (hTt.blk HJ.out.2.1 (fun e => hgR e.symm)) HJ.out.1.1 (HJ.out.2.2.then (hTt.mono (fun k' hk' => .inr (.inl (by rw [hk']; rfl)))))
        rw [hE, HBB.out] at hfin
        exact ⟨rfl, by rw [HBB.out]; exact hfin⟩
    · rw [if_pos hs]
      have ts : (a.st != 1) = true := by simpa using hs
      clear hs
      go_enter Try.func44, Try.ntmps44
      go_wp2_with fail
      refine K.out.mono ?_
      rintro e w1 ⟨rfl, rfl⟩
      go_wp2_with fail
      go_ret
      exact ⟨rfl, PostR.same HX.out.1 HX.out.2.1 o ((Below.refl _ _).alloc (Nat.le_refl _) _)⟩
  · have e : memR F d o = noC 70 d := by unfold memR; rw [hf]
    rw [e]
    rw [hp] at K
    replace K := hid K
    have H := hid (And.intro h hF)
    clear h hF hg hf hp e
    go_enter Try.func44, Try.ntmps44
    go_wp2_with fail
    refine K.out.mono ?_
    rintro e w1 ⟨rfl, rfl⟩
    go_wp2_with fail
    go_ret
    exact ⟨rfl, PostR.same H.out.1 H.out.2 o (Below.refl _ _)⟩
end

end Go.Proofs.Ythdmbbfppgenlaa

/-
  The document's book of money: WriteOff, Refund.
  The document's book of money: Memo.
  The document's book of money: Dun.
  The document's book of money: Balance.
-/
import Derived.Test.YthdmbbfppgenlaaGreatChR4
import Derived.Deep.CutBlock
namespace Go.Proofs.YthdmbbfppgenlaaGreat
open Go.RowKit Go.WideShapes Go.ChangeShapes Go.ChangeAt Go.Deep
set_option linter.unusedVariables false

section
variable {base R cap : Nat} {A : Option Addr} {L : List Ca} {d d' : Int} {w w' w4 wr : World} {F : Int → Option Ca}
/-- The book's accounts fit. -/
structure GoodG (F : Int → Option Ca) (d : Int) : Prop where
  fit : ∀ o a, F o = some a → FitC a ∧ wt a ≤ d
  d0 : 0 ≤ d
  d1 : d ≤ 1152921504606846976
theorem GoodC.goodG {ac : List (Int × CP)} {d : Int} (h : GoodC ac d) : GoodG (cfind ac) d := ⟨fun o a ha => by have := h.of o 0 ha; exact ⟨this.1, Int.le_trans this.2.2 h.tot⟩, h.d0, h.d1⟩
theorem PostR.setK {o : Int} {k : Nat} {a b : Ca} (hF : RelC F L) (hk : L[k]? = some a) (hb : b.o = a.o) (ho : a.o = o) (hR : R < base) (hB : Blk w' R 95 #[.slice A L.length cap, .int .i64 d']) (hO : w'.ownsRow base 47 9 (.slice A (L.set k b).length cap) (L.set k b).length ((L.set k b).flatMap enC9)) (hT : Touch (RT w.heap.size R A) w w') : PostR base R A L F o (some b) d' w w' := by
  have hin : b.o ∈ L.map Ca.o := by rw [hb]; exact List.mem_map_of_mem (List.mem_of_getElem? hk)
  have hu := updK_set linI hF.sorted hk (e := b) hb.symm
  refine ⟨A, cap, L.set k b, ⟨by rw [List.length_set]; exact hB, hO, hR⟩, ?_, by rw [List.length_set]; omega, hT⟩
  have := hF.put (a := b) (L' := L.set k b) (fun _ => hu.symm) (fun hh => absurd hin hh)
  rwa [hb, ho] at this

set_option maxRecDepth 100000 in
set_option maxHeartbeats 16000000 in
theorem rwof_any (h : IsRf base w R A cap L d) (hF : RelC F L) (hg : GoodG F d) (hl : L.length ≤ 140737488355328) (hbw : base ≤ w.heap.size) (o : Int) :
    Calls Tryz.prog 68 #[.pointer (some ⟨R, 0, none⟩), .int .i64 o] w fun e w' => e = .returned (.int .i64 (wofR F d o).code) ∧ PostR base R A L F o (wofR F d o).acc (wofR F d o).d w w' := by
  have K := rfind_any h o hl
  rcases hF.at_ o with ⟨k, a, hkl, hk, hf, hao, hp⟩ | ⟨hf, hp⟩
  · obtain ⟨hfit, hwt⟩ := hg.fit o a hf
    obtain ⟨g, hA, hbg, hpr⟩ := h.elem hk
    subst hA
    rw [hp] at K
    have e : wofR F d o = if openC a = 0 then noC 170 d else if 1000 < openC a then noC 130 d else if 576460752303423488 - openC a < d then noC 72 d else ⟨false, 0, some (wofB a), d + openC a⟩ := by unfold wofR; rw [hf]
    rw [e]
    have KO := ropen_any a w hfit.small
    simp only [celC] at KO
    replace K := hid K
    have t0 : decide ((k : Int) < 0) = false := decide_eq_false (by omega)
    have c0 : w.cell? ⟨R, 0, none⟩ = some (.slice (some ⟨g, 0, none⟩) L.length cap) := h.blk.cell 0
    have p0 : w.cell? ⟨g, k * 9, none⟩ = some (.int .i64 a.o) := hpr.2 0 _ rfl
    have p1 : w.cell? ⟨g, k * 9 + 1, none⟩ = some (.int .i64 a.c) := hpr.2 1 _ rfl
    have p2 : w.cell? ⟨g, k * 9 + 2, none⟩ = some (.int .i64 a.st) := hpr.2 2 _ rfl
    have p3 : w.cell? ⟨g, k * 9 + 3, none⟩ = some (.int .i64 a.lv) := hpr.2 3 _ rfl
    have p4 : w.cell? ⟨g, k * 9 + 4, none⟩ = some (.int .i64 a.net) := hpr.2 4 _ rfl
    have p5 : w.cell? ⟨g, k * 9 + 5, none⟩ = some (.int .i64 a.tax) := hpr.2 5 _ rfl
    have p6 : w.cell? ⟨g, k * 9 + 6, none⟩ = some (.int .i64 a.ap) := hpr.2 6 _ rfl
    have p7 : w.cell? ⟨g, k * 9 + 7, none⟩ = some (.int .i64 a.wr) := hpr.2 7 _ rfl
    have p8 : w.cell? ⟨g, k * 9 + 8, none⟩ = some (.int .i64 a.dep) := hpr.2 8 _ rfl
    have hz := hfit.open0
    have HX := hid (And.intro h (And.intro hF (And.intro hk (And.intro hao (And.intro hpr hfit)))))
    have HG := hid (And.intro hg.d0 hg.d1)
    obtain ⟨z, hz0⟩ : ∃ z, z = openC a := ⟨_, rfl⟩
    rw [← hz0] at KO hz ⊢
    replace KO := hid KO
    have HZ := hid hz0
    have hRg : g ≠ R := by have := h.lt; omega
    have HS := hid (And.intro h.lt hbg)
    clear h hF hg hk hf hao hp hfit hwt hpr e hz0
    by_cases z0 : z = 0
    · rw [if_pos z0]
      have tz : (z == 0) = true := by simp [z0]
      clear hz z0
      go_enter Tryz.func68, Tryz.ntmps68
      go_wp2_with fail
      refine K.out.mono ?_
      rintro e w1 ⟨rfl, rfl⟩
      go_wp2_with fail
      refine KO.out.mono ?_
      rintro e w1 ⟨rfl, hb⟩
      clear c0 p0 p1 p2 p3 p4 p5 p6 p7 p8
      go_wp2_with fail
      go_ret
      exact ⟨rfl, PostR.same HX.out.1 HX.out.2.1 o hb⟩
    · rw [if_neg z0]
      have tz : (z == 0) = false := by simpa using z0
      clear z0
      by_cases z1 : 1000 < z
      · rw [if_pos z1]
        have tz1 : decide (1000 < z) = true := decide_eq_true z1
        clear hz
        go_enter Tryz.func68, Tryz.ntmps68
        go_wp2_with fail
        refine K.out.mono ?_
        rintro e w1 ⟨rfl, rfl⟩
        go_wp2_with fail
        refine KO.out.mono ?_
        rintro e w1 ⟨rfl, hb⟩
        clear c0 p0 p1 p2 p3 p4 p5 p6 p7 p8
        go_wp2_with fail
        go_ret
        exact ⟨rfl, PostR.same HX.out.1 HX.out.2.1 o hb⟩
      · rw [if_neg z1]
        have tz1 : decide (1000 < z) = false := decide_eq_false z1
        have wz : IntKind.i64.wrap (d + z) = d + z := IntWalk.i64_in _ ⟨by have := HG.out; omega, by have := HG.out; omega⟩
        by_cases hr : 576460752303423488 - z < d
        · rw [if_pos hr]
          have tr : decide (576460752303423488 < d + z) = true := decide_eq_true (by omega)
          clear hz hr
          go_enter Tryz.func68, Tryz.ntmps68
          go_wp2_with fail
          refine K.out.mono ?_
          rintro e w1 ⟨rfl, rfl⟩
          go_wp2_with fail
          refine KO.out.mono ?_
          rintro e w1 ⟨rfl, hb⟩
          clear c0 p0 p1 p2 p3 p4 p5 p6 p7 p8
          have c1 : w1.cell? ⟨R, 1, none⟩ = some (.int .i64 d) := (HX.out.1.next hb).blk.cell 1
          go_wp2_with fail
          go_ret
          exact ⟨rfl, PostR.same HX.out.1 HX.out.2.1 o hb⟩
        · rw [if_neg hr]
          have tr : decide (576460752303423488 < d + z) = false := decide_eq_false (by omega)
          have ww : IntKind.i64.wrap (a.wr + z) = a.wr + z := IntWalk.i64_in _ ⟨by have := HX.out.2.2.2.2.2.w0; omega, by have := HX.out.2.2.2.2.2.small.w; omega⟩
          clear hr
          go_enter Tryz.func68, Tryz.ntmps68
          go_wp2_with fail
          refine K.out.mono ?_
          rintro e w1 ⟨rfl, rfl⟩
          go_wp2_with fail
          refine KO.out.mono ?_
          rintro e w1 ⟨rfl, hb⟩
          clear c0 p0 p1 p2 p3 p4 p5 p6 p7 p8
          have h1 := HX.out.1.next hb
          have c0 : w1.cell? ⟨R, 0, none⟩ = some (.slice (some ⟨g, 0, none⟩) L.length cap) := h1.blk.cell 0
          have c1 : w1.cell? ⟨R, 1, none⟩ = some (.int .i64 d) := h1.blk.cell 1
          have fR := h1.blk.free 1
          have lR := h1.blk.lt
          have hpr1 := HX.out.2.2.2.2.1.next hb
          have p7 : w1.cell? ⟨g, k * 9 + 7, none⟩ = some (.int .i64 a.wr) := hpr1.2 7 _ rfl
          have f7 := own_free h1.own (k * 9 + 7)
          have lg := hpr1.1
          have hO := own_field enC9_len (h1.next (below_drewN (Below.refl _ _) 1 : Below w1.heap.size w1 w1.drew)).own (k := k) (j := 7) (x := a) (x' := wofB a) (v := .int .i64 (a.wr + z)) HX.out.2.2.1 (by omega) (by unfold wofB; rw [← HZ.out]; rfl)
          have hB := ((h1.next (below_drewN (Below.refl _ _) 1 : Below w1.heap.size w1 w1.drew)).blk).far (p := ⟨g, k * 9 + 7, none⟩) hRg.symm (.int .i64 (a.wr + z))
          have HO := hid (And.intro hO.1 (And.intro hB (And.intro ((Touch.of_below (S := RT w.heap.size R (some ⟨g, 0, none⟩)) hb).drew.then ((Touch.of_grown hO.2).mono (fun k' hk' => .inr (.inl (by rw [hk']; rfl))))) (Nat.le_refl 0))))
          clear h1 hpr1 hO hB hb
          go_wp2_with fail
          refine wp_tail 17 (by kernel_rfl) (by kernel_rfl) ?_
          simp only [List.take_succ_cons, List.take_zero, List.drop_succ_cons, List.drop_zero]
          repeat still_step
          refine wpStill_nil ?_
          go_wp2_with fail
          go_ret
          obtain ⟨o1, o2, o3, _⟩ := HO.out
          have HE := own_touch o1 (Touch.setCell _ R 1 (.int .i64 (d + z))) (fun g' hg' e => by have := (o1.lt g' hg').1; have := HS.out.1; omega)
          exact ⟨rfl, PostR.setK HX.out.2.1 HX.out.2.2.1 rfl HX.out.2.2.2.1 HS.out.1 (o2.set_ 1 (.int .i64 (d + z))) HE (o3.then ((Touch.setCell _ R 1 (.int .i64 (d + z))).mono (fun k' hk' => .inl hk')))⟩
  · have e : wofR F d o = noC 70 d := by unfold wofR; rw [hf]
    rw [e]
    rw [hp] at K
    replace K := hid K
    have H := hid (And.intro h hF)
    clear h hF hg hf hp e
    go_enter Tryz.func68, Tryz.ntmps68
    go_wp2_with fail
    refine K.out.mono ?_
    rintro e w1 ⟨rfl, rfl⟩
    go_wp2_with fail
    go_ret
    exact ⟨rfl, PostR.same H.out.1 H.out.2 o (Below.refl _ _)⟩

set_option maxRecDepth 100000 in
set_option maxHeartbeats 16000000 in
theorem rref_any (h : IsRf base w R A cap L d) (hF : RelC F L) (hg : GoodG F d) (hl : L.length ≤ 140737488355328) (hbw : base ≤ w.heap.size) (o : Int) :
    Calls Tryz.prog 70 #[.pointer (some ⟨R, 0, none⟩), .int .i64 o] w fun e w' => e = .returned (.tuple #[.int .i64 (refR F d o).1, .int .i64 (refR F d o).2.code]) ∧ PostR base R A L F o (refR F d o).2.acc (refR F d o).2.d w w' := by
  have K := rfind_any h o hl
  rcases hF.at_ o with ⟨k, a, hkl, hk, hf, hao, hp⟩ | ⟨hf, hp⟩
  · obtain ⟨hfit, hwt⟩ := hg.fit o a hf
    obtain ⟨g, hA, hbg, hpr⟩ := h.elem hk
    subst hA
    rw [hp] at K
    have e : refR F d o = if 576460752303423488 - a.dep < d then (0, noC 72 d) else (a.dep, ⟨false, 0, some (refB a), d + a.dep⟩) := by unfold refR; rw [hf]
    rw [e]
    replace K := hid K
    have t0 : decide ((k : Int) < 0) = false := decide_eq_false (by omega)
    have c0 : w.cell? ⟨R, 0, none⟩ = some (.slice (some ⟨g, 0, none⟩) L.length cap) := h.blk.cell 0
    have c1 : w.cell? ⟨R, 1, none⟩ = some (.int .i64 d) := h.blk.cell 1
    have p8 : w.cell? ⟨g, k * 9 + 8, none⟩ = some (.int .i64 a.dep) := hpr.2 8 _ rfl
    have f8 := own_free h.own (k * 9 + 8)
    have fR := h.blk.free 1
    have lR := h.blk.lt
    have lg := hpr.1
    have hRg : g ≠ R := by have := h.lt; omega
    have wn : IntKind.i64.wrap (d + a.dep) = d + a.dep := IntWalk.i64_in _ ⟨by have := hg.d0; have := hfit.d0; omega, by have := hg.d1; have := hfit.d1; omega⟩
    have HX := hid (And.intro h (And.intro hF (And.intro hk (And.intro hao hbg))))
    clear hF hg hk hf hao hp hfit hwt hpr e
    by_cases hr : 576460752303423488 - a.dep < d
    · rw [if_pos hr]
      have tr : decide (576460752303423488 < d + a.dep) = true := decide_eq_true (by omega)
      clear hr h
      go_enter Tryz.func70, Tryz.ntmps70
      go_wp2_with fail
      refine K.out.mono ?_
      rintro e w1 ⟨rfl, rfl⟩
      go_wp2_with fail
      go_ret2
      exact ⟨rfl, PostR.same HX.out.1 HX.out.2.1 o (Below.refl _ _)⟩
    · rw [if_neg hr]
      have tr : decide (576460752303423488 < d + a.dep) = false := decide_eq_false (by omega)
      have hB := (h.blk.set_ 1 (.int .i64 (d + a.dep)))
      have hO1 := own_touch h.own (Touch.setCell w R 1 (.int .i64 (d + a.dep))) (fun g' hg' e => by have := (h.own.lt g' hg').1; have := h.lt; omega)
      have hO := own_field enC9_len hO1 (k := k) (j := 8) (x := a) (x' := refB a) (v := .int .i64 0) HX.out.2.2.1 (by omega) rfl
      have HO := hid (And.intro hO.1 (And.intro (hB.far (p := ⟨g, k * 9 + 8, none⟩) hRg.symm (.int .i64 0)) (((Touch.setCell w R 1 (.int .i64 (d + a.dep))).mono (fun k' hk' => (.inl hk' : RT w.heap.size R (some ⟨g, 0, none⟩) k'))).then ((Touch.of_grown hO.2).mono (fun k' hk' => .inr (.inl (by rw [hk']; rfl)))))))
      clear hr h hB hO1 hO
      go_enter Tryz.func70, Tryz.ntmps70
      go_wp2_with fail
      refine K.out.mono ?_
      rintro e w1 ⟨rfl, rfl⟩
      go_wp2_with fail
      go_ret2
      exact ⟨rfl, PostR.setK HX.out.2.1 HX.out.2.2.1 rfl HX.out.2.2.2.1 HX.out.1.lt HO.out.2.1 HO.out.1 HO.out.2.2⟩
  · have e : refR F d o = (0, noC 70 d) := by unfold refR; rw [hf]
    rw [e]
    rw [hp] at K
    replace K := hid K
    have H := hid (And.intro h hF)
    clear h hF hg hf hp e
    go_enter Tryz.func70, Tryz.ntmps70
    go_wp2_with fail
    refine K.out.mono ?_
    rintro e w1 ⟨rfl, rfl⟩
    go_wp2_with fail
    go_ret2
    exact ⟨rfl, PostR.same H.out.1 H.out.2 o (Below.refl _ _)⟩
end

end Go.Proofs.YthdmbbfppgenlaaGreat

namespace Go.Proofs.YthdmbbfppgenlaaGreat
open Go.RowKit Go.WideShapes Go.ChangeShapes Go.ChangeAt Go.Deep
set_option linter.unusedVariables false

section
variable {base R cap : Nat} {A : Option Addr} {L : List Ca} {d d' : Int} {w w' w4 wr : World} {F : Int → Option Ca}
set_option maxRecDepth 100000 in
set_option maxHeartbeats 16000000 in
theorem rmem_any (h : IsRf base w R A cap L d) (hF : RelC F L) (hg : GoodG F d) (hl : L.length ≤ 140737488355328) (hbw : base ≤ w.heap.size) (o : Int) :
    Calls Tryz.prog 69 #[.pointer (some ⟨R, 0, none⟩), .int .i64 o] w fun e w' => e = .returned (.int .i64 (memR F d o).code) ∧ PostR base R A L F o (memR F d o).acc (memR F d o).d w w' := by
  have K := rfind_any h o hl
  rcases hF.at_ o with ⟨k, a, hkl, hk, hf, hao, hp⟩ | ⟨hf, hp⟩
  · obtain ⟨hfit, hwt⟩ := hg.fit o a hf
    obtain ⟨g, hA, hbg, hpr⟩ := h.elem hk
    subst hA
    rw [hp] at K
    have e : memR F d o = if a.st ≠ 1 then noC 130 d else if 576460752303423488 - (a.net + a.tax) < d then noC 72 d else ⟨false, 0, some (memB a), d + (a.net + a.tax)⟩ := by unfold memR; rw [hf]
    rw [e]
    replace K := hid K
    have t0 : decide ((k : Int) < 0) = false := decide_eq_false (by omega)
    have c0 : w.cell? ⟨R, 0, none⟩ = some (.slice (some ⟨g, 0, none⟩) L.length cap) := h.blk.cell 0
    have p0 : w.cell? ⟨g, k * 9, none⟩ = some (.int .i64 a.o) := hpr.2 0 _ rfl
    have p1 : w.cell? ⟨g, k * 9 + 1, none⟩ = some (.int .i64 a.c) := hpr.2 1 _ rfl
    have p2 : w.cell? ⟨g, k * 9 + 2, none⟩ = some (.int .i64 a.st) := hpr.2 2 _ rfl
    have p3 : w.cell? ⟨g, k * 9 + 3, none⟩ = some (.int .i64 a.lv) := hpr.2 3 _ rfl
    have p4 : w.cell? ⟨g, k * 9 + 4, none⟩ = some (.int .i64 a.net) := hpr.2 4 _ rfl
    have p5 : w.cell? ⟨g, k * 9 + 5, none⟩ = some (.int .i64 a.tax) := hpr.2 5 _ rfl
    have p6 : w.cell? ⟨g, k * 9 + 6, none⟩ = some (.int .i64 a.ap) := hpr.2 6 _ rfl
    have p7 : w.cell? ⟨g, k * 9 + 7, none⟩ = some (.int .i64 a.wr) := hpr.2 7 _ rfl
    have p8 : w.cell? ⟨g, k * 9 + 8, none⟩ = some (.int .i64 a.dep) := hpr.2 8 _ rfl
    have lR : R < w.heap.size := h.blk.lt
    have lg : g < w.heap.size := hpr.1
    have HX := hid (And.intro h (And.intro hF (And.intro hk (And.intro hao (And.intro hfit hpr)))))
    have HG := hid (And.intro hg.d0 hg.d1)
    clear h hF hg hk hf hao hp hfit hwt hpr e
    by_cases hs : a.st = 1
    · rw [if_neg (fun e => e hs)]
      have ts : (a.st != 1) = false := by simp [hs]
      have w0 : IntKind.i64.wrap (d + a.net) = d + a.net := IntWalk.i64_in _ ⟨by have := HG.out; have := HX.out.2.2.2.2.1.n0; omega, by have := HG.out; have := HX.out.2.2.2.2.1.n1; omega⟩
      have w00 : IntKind.i64.wrap (d + a.net + a.tax) = d + a.net + a.tax := IntWalk.i64_in _ ⟨by have := HG.out; have := HX.out.2.2.2.2.1.n0; have := HX.out.2.2.2.2.1.t0; omega, by have := HG.out; have := HX.out.2.2.2.2.1.n1; have := HX.out.2.2.2.2.1.t1; omega⟩
      have wda : IntKind.i64.wrap (a.dep + a.ap) = a.dep + a.ap := IntWalk.i64_in _ ⟨by have := HX.out.2.2.2.2.1.d0; have := HX.out.2.2.2.2.1.p0; omega, by have := HX.out.2.2.2.2.1.d1; have := HX.out.2.2.2.2.1.small.p; omega⟩
      have HSS := hid hs
      obtain ⟨W1, hW1⟩ : ∃ W1, W1 = (w.alloc (.cells #[.int .i64 a.o, .int .i64 a.c, .int .i64 a.st, .int .i64 a.lv, .int .i64 a.net, .int .i64 a.tax, .int .i64 a.ap, .int .i64 a.wr, .int .i64 a.dep] 47)) := ⟨_, rfl⟩
      obtain ⟨G1, hG1⟩ : ∃ G1, G1 = w.heap.size := ⟨_, rfl⟩
      have hB1 : Blk W1 G1 47 (celC a) := by rw [hW1, hG1]; exact Blk.new _ _ _
      have hb1 : Below w.heap.size w W1 := by rw [hW1]; exact (Below.refl _ _).alloc (Nat.le_refl _) _
      have hGR : G1 ≠ R := by omega
      have HW1 := hid hW1
      have HG1 := hid hG1
      have hbd : Below w.heap.size w W1.drew := hb1.trans ((below_drewN (Below.refl _ _) 1 : Below W1.heap.size W1 W1.drew).mono hb1.size)
      have hB2 : Blk W1.drew G1 47 (celC a) := hB1.next (below_drewN (Below.refl _ _) 1)
      obtain ⟨W2, hW2⟩ : ∃ W2, W2 = W1.drew := ⟨_, rfl⟩
      rw [← hW2] at hbd hB2
      have h2 := HX.out.1.next hbd
      obtain ⟨C, hCd⟩ : ∃ C : World → Prop, ∀ w', C w' ↔ w' = W2 := ⟨_, fun _ => Iff.rfl⟩
      have hC : C W1.drew := (hCd _).2 hW2.symm
      have q1 : ∀ p : In C, p.w.cell? ⟨R, 1, none⟩ = some (.int .i64 d) := fun p => by rw [(hCd _).1 p.h]; exact h2.blk.cell 1
      have q4 : ∀ p : In C, p.w.cell? ⟨G1, 4, none⟩ = some (.int .i64 a.net) := fun p => by rw [(hCd _).1 p.h]; exact hB2.cell 4
      have q5 : ∀ p : In C, p.w.cell? ⟨G1, 5, none⟩ = some (.int .i64 a.tax) := fun p => by rw [(hCd _).1 p.h]; exact hB2.cell 5
      have HC := hid hCd
      have H2 := hid (And.intro h2 (And.intro hbd hB2))
      clear hs hW1 hG1 hB1 hb1 hbd hB2 hW2 h2 hCd
      by_cases hr : 576460752303423488 - (a.net + a.tax) < d
      · rw [if_pos hr]
        have tr : decide (576460752303423488 < d + a.net + a.tax) = true := decide_eq_true (by omega)
        clear hr
        go_enter Tryz.func69, Tryz.ntmps69
        go_wp2_with fail
        refine K.out.mono ?_
        rintro e w1 ⟨rfl, rfl⟩
        go_wp2_with fail
        rw [← HW1.out, ← HG1.out]
        refine wp_region_in C (by kernel_rfl) (by kernel_rfl) hC ?_
        intro hne
        clear hC c0 p0 p1 p2 p3 p4 p5 p6 p7 p8
        repeat (first | go_big_quiet_step (fail) | quiet_step (fail))
        refine wpQuiet_nil ?_
        intro wq hq
        obtain rfl := (HC.out _).1 hq
        clear q1 q4 q5 hne hq HC
        go_wp2_with fail
        go_ret
        exact ⟨rfl, PostR.same HX.out.1 HX.out.2.1 o H2.out.2.1⟩
      · rw [if_neg hr]
        have tr : decide (576460752303423488 < d + a.net + a.tax) = false := decide_eq_false (by omega)
        have HR := hid hr
        clear hr
        go_enter Tryz.func69, Tryz.ntmps69
        go_wp2_with fail
        refine K.out.mono ?_
        rintro e w1 ⟨rfl, rfl⟩
        go_wp2_with fail
        rw [← HW1.out, ← HG1.out]
        refine wp_region_in C (by kernel_rfl) (by kernel_rfl) hC ?_
        intro hne
        clear hC c0 p0 p1 p2 p3 p4 p5 p6 p7 p8
        repeat (first | go_big_quiet_step (fail) | quiet_step (fail))
        refine wpQuiet_nil ?_
        intro wq hq
        obtain rfl := (HC.out _).1 hq
        clear q1 q4 q5 hne hq HC
        have c1 : wq.cell? ⟨R, 1, none⟩ = some (.int .i64 d) := H2.out.1.blk.cell 1
        have fR := H2.out.1.blk.free 1
        have lR2 := H2.out.1.blk.lt
        have e4 : wq.cell? ⟨G1, 4, none⟩ = some (.int .i64 a.net) := H2.out.2.2.cell 4
        have e5 : wq.cell? ⟨G1, 5, none⟩ = some (.int .i64 a.tax) := H2.out.2.2.cell 5
        have lG := H2.out.2.2.lt
        go_wp2_with fail
        refine wp_tail 13 (by kernel_rfl) (by kernel_rfl) ?_
        simp only [List.take_succ_cons, List.take_zero, List.drop_succ_cons, List.drop_zero]
        repeat still_step
        refine wpStill_nil ?_
        have hbq : Below wq.heap.size wq wq.drew := below_drewN (Below.refl _ _) 1
        have hG3 : Blk (wq.drew.setCell ⟨R, 1, none⟩ (.int .i64 (d + a.net + a.tax))) G1 47 (celC a) := (H2.out.2.2.next hbq).far hGR _
        have hT3 : Touch (· = R) w (wq.drew.setCell ⟨R, 1, none⟩ (.int .i64 (d + a.net + a.tax))) := ((Touch.of_below H2.out.2.1).then (.of_below hbq)).then (Touch.setCell _ R 1 _)
        have hR3 : Blk (wq.drew.setCell ⟨R, 1, none⟩ (.int .i64 (d + a.net + a.tax))) R 95 #[.slice (some ⟨g, 0, none⟩) L.length cap, .int .i64 (d + a.net + a.tax)] := ((H2.out.1.next hbq).blk.set_ 1 (.int .i64 (d + a.net + a.tax)))
        have H3 := hid (And.intro hG3 (And.intro hT3 hR3))
        clear hbq hG3 hT3 hR3
        have e8 : wq.cell? ⟨G1, 8, none⟩ = some (.int .i64 a.dep) := H2.out.2.2.cell 8
        have e6 : wq.cell? ⟨G1, 6, none⟩ = some (.int .i64 a.ap) := H2.out.2.2.cell 6
        have e7 : wq.cell? ⟨G1, 7, none⟩ = some (.int .i64 a.wr) := H2.out.2.2.cell 7
        have e2 : wq.cell? ⟨G1, 2, none⟩ = some (.int .i64 a.st) := H2.out.2.2.cell 2
        have f8 := H2.out.2.2.free 8
        have f6 := H2.out.2.2.free 6
        have f7 := H2.out.2.2.free 7
        have f2 := H2.out.2.2.free 2
        go_wp2_with fail
        have hG4 : Blk ((((((wq.setCell ⟨R, 1, none⟩ (.int .i64 (d + a.net + a.tax))).setCell ⟨G1, 8, none⟩ (.int .i64 (a.dep + a.ap))).setCell ⟨G1, 6, none⟩ (.int .i64 0)).setCell ⟨G1, 7, none⟩ (.int .i64 0)).setCell ⟨G1, 2, none⟩ (.int .i64 2)).drew) G1 47 (celC (memB a)) := (((H3.out.1.set_ 8 (.int .i64 (a.dep + a.ap))).set_ 6 (.int .i64 0)).set_ 7 (.int .i64 0)).set_ 2 (.int .i64 2)
        have hT4 : Touch (· = R) w ((((((wq.setCell ⟨R, 1, none⟩ (.int .i64 (d + a.net + a.tax))).setCell ⟨G1, 8, none⟩ (.int .i64 (a.dep + a.ap))).setCell ⟨G1, 6, none⟩ (.int .i64 0)).setCell ⟨G1, 7, none⟩ (.int .i64 0)).setCell ⟨G1, 2, none⟩ (.int .i64 2)).drew) := H3.out.2.1.trans ((((Touch.setCell _ G1 8 (.int .i64 (a.dep + a.ap))).then (Touch.setCell _ G1 6 (.int .i64 0))).then (Touch.setCell _ G1 7 (.int .i64 0))).then (Touch.setCell _ G1 2 (.int .i64 2))) (fun k' hk' => .inr (by rw [hk', HG1.out]; exact Nat.le_refl _))
        have hR4 : Blk ((((((wq.setCell ⟨R, 1, none⟩ (.int .i64 (d + a.net + a.tax))).setCell ⟨G1, 8, none⟩ (.int .i64 (a.dep + a.ap))).setCell ⟨G1, 6, none⟩ (.int .i64 0)).setCell ⟨G1, 7, none⟩ (.int .i64 0)).setCell ⟨G1, 2, none⟩ (.int .i64 2)).drew) R 95 #[.slice (some ⟨g, 0, none⟩) L.length cap, .int .i64 (d + a.net + a.tax)] := (((H3.out.2.2.far (p := ⟨G1, 8, none⟩) hGR.symm _).far (p := ⟨G1, 6, none⟩) hGR.symm _).far (p := ⟨G1, 7, none⟩) hGR.symm _).far (p := ⟨G1, 2, none⟩) hGR.symm _
        have h4 := HX.out.1.turn hT4 (fun k' hk' => .inl hk') hR4
        clear e2 e4 e5 e6 e7 e8 f2 f6 f7 f8 c1 fR lR2 lG lR lg w0 w00 wda H3 hR4
        generalize (((((wq.setCell ⟨R, 1, none⟩ (.int .i64 (d + a.net + a.tax))).setCell ⟨G1, 8, none⟩ (.int .i64 (a.dep + a.ap))).setCell ⟨G1, 6, none⟩ (.int .i64 0)).setCell ⟨G1, 7, none⟩ (.int .i64 0)).setCell ⟨G1, 2, none⟩ (.int .i64 2)).drew = w4 at hG4 hT4 h4 ⊢
        obtain ⟨b, hb0⟩ : ∃ b, b = memB a := ⟨_, rfl⟩
        have HBB := hid hb0
        rw [← hb0] at hG4
        have c0 : w4.cell? ⟨R, 0, none⟩ = some (.slice (some ⟨g, 0, none⟩) L.length cap) := h4.blk.cell 0
        have e0 : w4.cell? ⟨G1, 0, none⟩ = some (.int .i64 b.o) := hG4.cell 0
        have e1 : w4.cell? ⟨G1, 1, none⟩ = some (.int .i64 b.c) := hG4.cell 1
        have e2 : w4.cell? ⟨G1, 2, none⟩ = some (.int .i64 b.st) := hG4.cell 2
        have e3 : w4.cell? ⟨G1, 3, none⟩ = some (.int .i64 b.lv) := hG4.cell 3
        have e4 : w4.cell? ⟨G1, 4, none⟩ = some (.int .i64 b.net) := hG4.cell 4
        have e5 : w4.cell? ⟨G1, 5, none⟩ = some (.int .i64 b.tax) := hG4.cell 5
        have e6 : w4.cell? ⟨G1, 6, none⟩ = some (.int .i64 b.ap) := hG4.cell 6
        have e7 : w4.cell? ⟨G1, 7, none⟩ = some (.int .i64 b.wr) := hG4.cell 7
        have e8 : w4.cell? ⟨G1, 8, none⟩ = some (.int .i64 b.dep) := hG4.cell 8
        have lG := hG4.lt
        have lR := h4.blk.lt
        have hbd : Below w4.heap.size w4 w4.drew := below_drewN (Below.refl _ _) 1
        obtain ⟨g', hA', _, hpr4⟩ := h4.elem HX.out.2.2.1
        obtain rfl : g' = g := by injection hA' with e; injection e with e; exact e.symm
        have HTH := hid (show (w4.drew).there g' (k * 9) 9 from fun j hj => ⟨by
          obtain ⟨u, hu⟩ : ∃ u, (enC9 a)[j]? = some u := ⟨_, List.getElem?_eq_getElem (by rw [enC9_len]; exact hj)⟩
          have := hpr4.2 j u hu
          show (w4.cell? ⟨g', k * 9 + j, none⟩).isSome = true
          rw [this]; rfl, own_free h4.own (k * 9 + j)⟩)
        have hJ := own_set enC9_len (h4.next hbd).own (k := k) hkl b
        have lg := hpr4.1
        have HJ := hid (And.intro hJ (And.intro ((h4.next hbd).blk) ((hT4.mono (fun k' hk' => (.inl hk' : RT w.heap.size R (some ⟨g', 0, none⟩) k'))).then (.of_below hbd))))
        have hgR : g' ≠ R := by have h1 := h4.lt; have h2 := (h4.own.lt g' rfl).1; omega
        clear hb0 hG4 hT4 h4 hbd hpr4 hJ hA'
        refine wp_tail 7 (by kernel_rfl) (by kernel_rfl) ?_
        simp only [List.take_succ_cons, List.take_zero, List.drop_succ_cons, List.drop_zero]
        repeat still_step
        refine wpStill_nil ?_
        refine wpList_store_mid rfl 47 _ _ rfl g' (k * 9) #[.int .i64 b.o, .int .i64 b.c, .int .i64 b.st, .int .i64 b.lv, .int .i64 b.net, .int .i64 b.tax, .int .i64 b.ap, .int .i64 b.wr, .int .i64 b.dep] rfl rfl HTH.out (by kernel_rfl) (by simp [Value.oneCell']) ?_
        rw [setCells_many]
        clear c0 e0 e1 e2 e3 e4 e5 e6 e7 e8 lG lR lg
        go_wp2_with fail
        go_ret
        have hTt := Touch.of_grown HJ.out.1.2
        have hE : d + a.net + a.tax = d + (a.net + a.tax) := by omega
        have hfin : PostR base R (some ⟨g', 0, none⟩) L F o (some b) (d + a.net + a.tax) w (storeMany w4.drew g' (k * 9) (enC9 b)) := PostR.setK HX.out.2.1 HX.out.2.2.1 (by rw [HBB.out]; rfl) HX.out.2.2.2.1 HX.out.1.lt (hTt.blk HJ.out.2.1 (fun e => hgR e.symm)) HJ.out.1.1 (HJ.out.2.2.then (hTt.mono (fun k' hk' => .inr (.inl (by rw [hk']; rfl)))))
        rw [hE, HBB.out] at hfin
        exact ⟨rfl, by rw [HBB.out]; exact hfin⟩
    · rw [if_pos hs]
      have ts : (a.st != 1) = true := by simpa using hs
      clear hs
      go_enter Tryz.func69, Tryz.ntmps69
      go_wp2_with fail
      refine K.out.mono ?_
      rintro e w1 ⟨rfl, rfl⟩
      go_wp2_with fail
      go_ret
      exact ⟨rfl, PostR.same HX.out.1 HX.out.2.1 o ((Below.refl _ _).alloc (Nat.le_refl _) _)⟩
  · have e : memR F d o = noC 70 d := by unfold memR; rw [hf]
    rw [e]
    rw [hp] at K
    replace K := hid K
    have H := hid (And.intro h hF)
    clear h hF hg hf hp e
    go_enter Tryz.func69, Tryz.ntmps69
    go_wp2_with fail
    refine K.out.mono ?_
    rintro e w1 ⟨rfl, rfl⟩
    go_wp2_with fail
    go_ret
    exact ⟨rfl, PostR.same H.out.1 H.out.2 o (Below.refl _ _)⟩
end

end Go.Proofs.YthdmbbfppgenlaaGreat

namespace Go.Proofs.YthdmbbfppgenlaaGreat
open Go.RowKit Go.WideShapes Go.ChangeShapes Go.ChangeAt Go.Deep
set_option linter.unusedVariables false

theorem set_same {α : Type} {l : List α} {k : Nat} {a : α} (h : l[k]? = some a) : l.set k a = l := by
  apply List.ext_getElem?
  intro i
  rw [List.getElem?_set]
  split
  · rename_i e
    subst e
    have hl := (List.getElem?_eq_some_iff.1 h).1
    rw [if_pos hl, h]
  · rfl
section
variable {base R cap : Nat} {A : Option Addr} {L : List Ca} {d d' : Int} {w w' w4 wr : World} {F : Int → Option Ca}
set_option maxRecDepth 100000 in
set_option maxHeartbeats 16000000 in
theorem rdun_any (h : IsRf base w R A cap L d) (hF : RelC F L) (hg : GoodG F d) (hl : L.length ≤ 140737488355328) (hbw : base ≤ w.heap.size) (o : Int) :
    Calls Tryz.prog 71 #[.pointer (some ⟨R, 0, none⟩), .int .i64 o] w fun e w' => e = .returned (.tuple #[.int .i64 (dunR F o).1, .bool (dunR F o).2.1]) ∧ PostR base R A L F o (dunR F o).2.2 d w w' := by
  have K := rfind_any h o hl
  rcases hF.at_ o with ⟨k, a, hkl, hk, hf, hao, hp⟩ | ⟨hf, hp⟩
  · obtain ⟨hfit, hwt⟩ := hg.fit o a hf
    obtain ⟨g, hA, hbg, hpr⟩ := h.elem hk
    subst hA
    rw [hp] at K
    have e : dunR F o = ((dunB a).lv, decide (0 < openC a) && decide ((dunB a).lv < 3), some (dunB a)) := by unfold dunR; rw [hf]
    rw [e]
    have KO := ropen_any a w hfit.small
    simp only [celC] at KO
    replace K := hid K
    have t0 : decide ((k : Int) < 0) = false := decide_eq_false (by omega)
    have c0 : w.cell? ⟨R, 0, none⟩ = some (.slice (some ⟨g, 0, none⟩) L.length cap) := h.blk.cell 0
    have p0 : w.cell? ⟨g, k * 9, none⟩ = some (.int .i64 a.o) := hpr.2 0 _ rfl
    have p1 : w.cell? ⟨g, k * 9 + 1, none⟩ = some (.int .i64 a.c) := hpr.2 1 _ rfl
    have p2 : w.cell? ⟨g, k * 9 + 2, none⟩ = some (.int .i64 a.st) := hpr.2 2 _ rfl
    have p3 : w.cell? ⟨g, k * 9 + 3, none⟩ = some (.int .i64 a.lv) := hpr.2 3 _ rfl
    have p4 : w.cell? ⟨g, k * 9 + 4, none⟩ = some (.int .i64 a.net) := hpr.2 4 _ rfl
    have p5 : w.cell? ⟨g, k * 9 + 5, none⟩ = some (.int .i64 a.tax) := hpr.2 5 _ rfl
    have p6 : w.cell? ⟨g, k * 9 + 6, none⟩ = some (.int .i64 a.ap) := hpr.2 6 _ rfl
    have p7 : w.cell? ⟨g, k * 9 + 7, none⟩ = some (.int .i64 a.wr) := hpr.2 7 _ rfl
    have p8 : w.cell? ⟨g, k * 9 + 8, none⟩ = some (.int .i64 a.dep) := hpr.2 8 _ rfl
    have HX := hid (And.intro h (And.intro hF (And.intro hk (And.intro hao (And.intro hpr hfit)))))
    obtain ⟨z, hz0⟩ : ∃ z, z = openC a := ⟨_, rfl⟩
    rw [← hz0] at KO
    replace KO := hid KO
    have HZ := hid hz0
    have hRg : g ≠ R := by have := h.lt; omega
    clear h hF hg hk hf hao hp hfit hwt hpr e
    by_cases z0 : 0 < z
    · have tz : decide (0 < z) = true := decide_eq_true z0
      by_cases hl3 : a.lv < 3
      · have tl : decide (a.lv < 3) = true := decide_eq_true hl3
        obtain ⟨b, hb0⟩ : ∃ b : Ca, b = { a with lv := a.lv + 1 } := ⟨_, rfl⟩
        have hdb : dunB a = b := by unfold dunB; rw [← hz0, if_pos ⟨z0, hl3⟩, hb0]
        rw [hdb, ← hz0, tz]
        have wl : IntKind.i64.wrap (a.lv + 1) = a.lv + 1 := IntWalk.i64_in _ ⟨by have := HX.out.2.2.2.2.2.l0; omega, by omega⟩
        simp only [Bool.true_and]
        clear hz0 hdb z0 hl3
        obtain ⟨t, ht⟩ : ∃ t, t = decide (a.lv + 1 < 3) := ⟨_, rfl⟩
        have hbl : b.lv = a.lv + 1 := by rw [hb0]
        rw [hbl, ← ht]
        have HBB := hid hb0
        have htt : decide (a.lv + 1 < 3) = t := ht.symm
        clear hb0 hbl ht
        go_enter Tryz.func71, Tryz.ntmps71
        go_wp2_with fail
        refine K.out.mono ?_
        rintro e w1 ⟨rfl, rfl⟩
        go_wp2_with fail
        refine KO.out.mono ?_
        rintro e w1 ⟨rfl, hb⟩
        clear c0 p0 p1 p2 p3 p4 p5 p6 p7 p8
        have h1 := HX.out.1.next hb
        have hpr1 := HX.out.2.2.2.2.1.next hb
        have c0 : w1.cell? ⟨R, 0, none⟩ = some (.slice (some ⟨g, 0, none⟩) L.length cap) := h1.blk.cell 0
        have p3 : w1.cell? ⟨g, k * 9 + 3, none⟩ = some (.int .i64 a.lv) := hpr1.2 3 _ rfl
        have lg := hpr1.1
        have lR := h1.blk.lt
        have f3 := own_free h1.own (k * 9 + 3)
        have hbd : Below w1.heap.size w1 w1.drew := below_drewN (Below.refl _ _) 1
        have hO := own_field enC9_len (h1.next hbd).own (k := k) (j := 3) (x := a) (x' := b) (v := .int .i64 (a.lv + 1)) HX.out.2.2.1 (by omega) (by rw [HBB.out]; rfl)
        have hB := (h1.next hbd).blk.far (p := ⟨g, k * 9 + 3, none⟩) hRg.symm (.int .i64 (a.lv + 1))
        have HO := hid (And.intro hO.1 (And.intro hB ((Touch.of_below (S := RT w.heap.size R (some ⟨g, 0, none⟩)) hb).drew.then ((Touch.of_grown hO.2).mono (fun k' hk' => .inr (.inl (by rw [hk']; rfl)))))))
        clear h1 hpr1 hbd hO hB
        go_wp2_with fail
        refine wp_tail 16 (by kernel_rfl) (by kernel_rfl) ?_
        simp only [List.take_succ_cons, List.take_zero, List.drop_succ_cons, List.drop_zero]
        repeat still_step
        refine wpStill_nil ?_
        go_wp2_with fail
        have c05 : (w1.setCell ⟨g, k * 9 + 3, none⟩ (.int .i64 (a.lv + 1))).drew.cell? ⟨R, 0, none⟩ = some (.slice (some ⟨g, 0, none⟩) L.length cap) := HO.out.2.1.cell 0
        have p35 : (w1.setCell ⟨g, k * 9 + 3, none⟩ (.int .i64 (a.lv + 1))).drew.cell? ⟨g, k * 9 + 3, none⟩ = some (.int .i64 (a.lv + 1)) := by
          have e1 := own_cells enC9_len HO.out.1 (k := k) (j := 3) (x := b) (u := .int .i64 (a.lv + 1)) (by rw [List.getElem?_set_self hkl]) (by rw [HBB.out]; rfl)
          exact e1
        have lR5 : R < (w1.setCell ⟨g, k * 9 + 3, none⟩ (.int .i64 (a.lv + 1))).drew.heap.size := HO.out.2.1.lt
        have lg5 : g < (w1.setCell ⟨g, k * 9 + 3, none⟩ (.int .i64 (a.lv + 1))).drew.heap.size := (HO.out.1.lt g rfl).2
        have HO5 : Hid ((w1.setCell ⟨g, k * 9 + 3, none⟩ (.int .i64 (a.lv + 1))).drew.ownsRow base 47 9 (.slice (some ⟨g, 0, none⟩) (L.set k b).length cap) (L.set k b).length ((L.set k b).flatMap enC9) ∧ Blk (w1.setCell ⟨g, k * 9 + 3, none⟩ (.int .i64 (a.lv + 1))).drew R 95 #[.slice (some ⟨g, 0, none⟩) L.length cap, .int .i64 d] ∧ Touch (RT w.heap.size R (some ⟨g, 0, none⟩)) w (w1.setCell ⟨g, k * 9 + 3, none⟩ (.int .i64 (a.lv + 1))).drew) := hid HO.out
        clear HO f3 c0 p3 lg lR
        generalize (w1.setCell ⟨g, k * 9 + 3, none⟩ (.int .i64 (a.lv + 1))).drew = w5 at c05 p35 lR5 lg5 HO5 ⊢
        obtain ⟨C, hCd⟩ : ∃ C : World → Prop, ∀ w', C w' ↔ Below w5.heap.size w5 w' := ⟨_, fun _ => Iff.rfl⟩
        have hC : C w5.drew := (hCd _).2 ((Below.refl _ _).drew)
        have q0 : ∀ p : In C, p.w.cell? ⟨R, 0, none⟩ = some (.slice (some ⟨g, 0, none⟩) L.length cap) := fun p => (((hCd _).1 p.h).cell (p := ⟨R, 0, none⟩) lR5).trans c05
        have q3 : ∀ p : In C, p.w.cell? ⟨g, k * 9 + 3, none⟩ = some (.int .i64 (a.lv + 1)) := fun p => (((hCd _).1 p.h).cell (p := ⟨g, k * 9 + 3, none⟩) lg5).trans p35
        have HC := hid hCd
        clear hCd
        go_wp2_with fail
        refine wp_region_in C (by kernel_rfl) (by kernel_rfl) hC ?_
        intro hne
        clear hC
        repeat (first | go_big_quiet_step (fail) | quiet_step (fail))
        refine wpQuiet_nil ?_
        intro wq hq
        have hb9 := (HC.out _).1 hq
        clear q0 q3 hne hq HC
        go_wp2_with fail
        go_ret2
        exact ⟨by simp, PostR.setK HX.out.2.1 HX.out.2.2.1 (by rw [HBB.out]) HX.out.2.2.2.1 HX.out.1.lt (HO5.out.2.1.next hb9) (HO5.out.1.kept (grown_of_below hb9 none) (by simp [Value.ownBlock])) (HO5.out.2.2.then (.of_below hb9))⟩
      · have tl : decide (a.lv < 3) = false := decide_eq_false hl3
        have hdb : dunB a = a := by unfold dunB; rw [if_neg (fun e => hl3 e.2)]
        rw [hdb, ← hz0, tz, tl]
        clear hz0 hdb z0 hl3
        go_enter Tryz.func71, Tryz.ntmps71
        go_wp2_with fail
        refine K.out.mono ?_
        rintro e w1 ⟨rfl, rfl⟩
        go_wp2_with fail
        refine KO.out.mono ?_
        rintro e w1 ⟨rfl, hb⟩
        clear c0 p0 p1 p2 p3 p4 p5 p6 p7 p8
        have h1 := HX.out.1.next hb
        have hpr1 := HX.out.2.2.2.2.1.next hb
        have c0 : w1.cell? ⟨R, 0, none⟩ = some (.slice (some ⟨g, 0, none⟩) L.length cap) := h1.blk.cell 0
        have p3 : w1.cell? ⟨g, k * 9 + 3, none⟩ = some (.int .i64 a.lv) := hpr1.2 3 _ rfl
        have lg := hpr1.1
        have lR := h1.blk.lt
        have c05 := c0
        have p35 := p3
        have lR5 := lR
        have lg5 := lg
        clear h1 hpr1
        obtain ⟨C, hCd⟩ : ∃ C : World → Prop, ∀ w', C w' ↔ Below w1.heap.size w1 w' := ⟨_, fun _ => Iff.rfl⟩
        have hC : C w1.drew := (hCd _).2 ((Below.refl _ _).drew)
        have q0 : ∀ p : In C, p.w.cell? ⟨R, 0, none⟩ = some (.slice (some ⟨g, 0, none⟩) L.length cap) := fun p => (((hCd _).1 p.h).cell (p := ⟨R, 0, none⟩) lR5).trans c05
        have q3 : ∀ p : In C, p.w.cell? ⟨g, k * 9 + 3, none⟩ = some (.int .i64 a.lv) := fun p => (((hCd _).1 p.h).cell (p := ⟨g, k * 9 + 3, none⟩) lg5).trans p35
        have HC := hid hCd
        clear hCd
        go_wp2_with fail
        refine wp_region_in C (by kernel_rfl) (by kernel_rfl) hC ?_
        intro hne
        clear hC
        repeat (first | go_big_quiet_step (fail) | quiet_step (fail))
        refine wpQuiet_nil ?_
        intro wq hq
        have hb9 := (HC.out _).1 hq
        clear q0 q3 hne hq HC
        go_wp2_with fail
        go_ret2
        exact ⟨by simp, PostR.setK HX.out.2.1 HX.out.2.2.1 rfl HX.out.2.2.2.1 HX.out.1.lt ((HX.out.1.next (bthen hb hb9)).blk) (by have := (HX.out.1.next (bthen hb hb9)).own; rw [show L.set k a = L from set_same HX.out.2.2.1]; exact this) (.of_below (bthen hb hb9))⟩
    · have tz : decide (0 < z) = false := decide_eq_false z0
      have hdb : dunB a = a := by unfold dunB; rw [← hz0, if_neg (fun e => z0 e.1)]
      rw [hdb, ← hz0, tz, Bool.false_and]
      clear hz0 hdb z0
      go_enter Tryz.func71, Tryz.ntmps71
      go_wp2_with fail
      refine K.out.mono ?_
      rintro e w1 ⟨rfl, rfl⟩
      go_wp2_with fail
      refine KO.out.mono ?_
      rintro e w1 ⟨rfl, hb⟩
      clear c0 p0 p1 p2 p3 p4 p5 p6 p7 p8
      have h1 := HX.out.1.next hb
      have hpr1 := HX.out.2.2.2.2.1.next hb
      have c0 : w1.cell? ⟨R, 0, none⟩ = some (.slice (some ⟨g, 0, none⟩) L.length cap) := h1.blk.cell 0
      have p3 : w1.cell? ⟨g, k * 9 + 3, none⟩ = some (.int .i64 a.lv) := hpr1.2 3 _ rfl
      have lg := hpr1.1
      have lR := h1.blk.lt
      have c05 := c0
      have p35 := p3
      have lR5 := lR
      have lg5 := lg
      clear h1 hpr1
      obtain ⟨C, hCd⟩ : ∃ C : World → Prop, ∀ w', C w' ↔ Below w1.heap.size w1 w' := ⟨_, fun _ => Iff.rfl⟩
      have hC : C w1.drew := (hCd _).2 ((Below.refl _ _).drew)
      have q0 : ∀ p : In C, p.w.cell? ⟨R, 0, none⟩ = some (.slice (some ⟨g, 0, none⟩) L.length cap) := fun p => (((hCd _).1 p.h).cell (p := ⟨R, 0, none⟩) lR5).trans c05
      have q3 : ∀ p : In C, p.w.cell? ⟨g, k * 9 + 3, none⟩ = some (.int .i64 a.lv) := fun p => (((hCd _).1 p.h).cell (p := ⟨g, k * 9 + 3, none⟩) lg5).trans p35
      have HC := hid hCd
      clear hCd
      go_wp2_with fail
      refine wp_region_in C (by kernel_rfl) (by kernel_rfl) hC ?_
      intro hne
      clear hC
      repeat (first | go_big_quiet_step (fail) | quiet_step (fail))
      refine wpQuiet_nil ?_
      intro wq hq
      have hb9 := (HC.out _).1 hq
      clear q0 q3 hne hq HC
      go_wp2_with fail
      go_ret2
      exact ⟨by simp, PostR.setK HX.out.2.1 HX.out.2.2.1 rfl HX.out.2.2.2.1 HX.out.1.lt ((HX.out.1.next (bthen hb hb9)).blk) (by have := (HX.out.1.next (bthen hb hb9)).own; rw [show L.set k a = L from set_same HX.out.2.2.1]; exact this) (.of_below (bthen hb hb9))⟩
  · have e : dunR F o = (0, false, none) := by unfold dunR; rw [hf]
    rw [e]
    rw [hp] at K
    replace K := hid K
    have H := hid (And.intro h hF)
    clear h hF hg hf hp e
    go_enter Tryz.func71, Tryz.ntmps71
    go_wp2_with fail
    refine K.out.mono ?_
    rintro e w1 ⟨rfl, rfl⟩
    go_wp2_with fail
    go_ret2
    exact ⟨rfl, PostR.same H.out.1 H.out.2 o (Below.refl _ _)⟩
end

end Go.Proofs.YthdmbbfppgenlaaGreat

namespace Go.Proofs.YthdmbbfppgenlaaGreat
open Go.RowKit Go.WideShapes Go.ChangeShapes Go.ChangeAt Go.Deep
set_option linter.unusedVariables false

/-- What is on an account, of a customer or (0) of all. -/
def balR (L : List Ca) (c k : Int) : Int := (L.map fun a => if c = 0 ∨ a.c = c then con a k else 0).sum
def wtR (L : List Ca) : Int := (L.map wt).sum
theorem balR_snoc (L : List Ca) (a : Ca) (c k : Int) : balR (L ++ [a]) c k = balR L c k + if c = 0 ∨ a.c = c then con a k else 0 := by unfold balR; rw [List.map_append, List.sum_append]; simp
theorem FitC.con_bd {a : Ca} (h : FitC a) (k : Int) : -(wt a) ≤ con a k ∧ con a k ≤ wt a := by
  have := h.p0; have := h.p1; have := h.w0; have := h.w1; have := h.n0; have := h.t0; have := h.d0
  unfold con wt openC
  by_cases hs : a.st = 1
  · simp only [hs, if_true]
    split <;> split <;> split <;> split <;> split <;> split <;> omega
  · simp only [hs, if_false]
    split <;> split <;> split <;> split <;> split <;> split <;> omega
theorem balR_bd {L : List Ca} (h : ∀ a ∈ L, FitC a) (c k : Int) : -(wtR L) ≤ balR L c k ∧ balR L c k ≤ wtR L := by
  induction L with
  | nil => simp [balR, wtR]
  | cons a L ih =>
    have h1 := (h a (by simp)).con_bd k
    have h2 := (h a (by simp)).wt0
    have h3 := ih (fun b hb => h b (by simp [hb]))
    unfold balR wtR at *
    simp only [List.map_cons, List.sum_cons]
    split <;> omega
theorem wtR_take {L : List Ca} (h : ∀ a ∈ L, FitC a) (k : Nat) : wtR (L.take k) ≤ wtR L := by
  have e : wtR L = wtR (L.take k) + wtR (L.drop k) := by unfold wtR; rw [← List.sum_append, ← List.map_append, List.take_append_drop]
  have : 0 ≤ wtR (L.drop k) := sum_nonneg_sub _ _ (fun a ha => (h a (List.mem_of_mem_drop ha)).wt0.1)
  omega
section
variable {base R cap : Nat} {A : Option Addr} {L : List Ca} {d d' : Int} {w w' w4 wr : World} {F : Int → Option Ca}
set_option maxRecDepth 100000 in
set_option maxHeartbeats 16000000 in
theorem rbal_any (h : IsRf base w R A cap L d) (hf : ∀ a ∈ L, FitC a) (hw : wtR L ≤ 1152921504606846976) (hl : L.length ≤ 140737488355328) (c k : Int) :
    Calls Tryz.prog 50 #[.pointer (some ⟨R, 0, none⟩), .int .i64 c, .int .i64 k] w fun e w' => e = .returned (.int .i64 (balR L c k)) ∧ Below w.heap.size w w' := by
  go_enter Tryz.func50, Tryz.ntmps50
  go_wp2_with fail
  go_loopw [7, 8] (fun s i wr => ∃ j : Nat, j ≤ L.length ∧ i = .int .i64 j ∧ s = .int .i64 (balR (L.take j) c k) ∧ Below w.heap.size w wr) (fun _ i _ => L.length - nOf i)
  case atStart => exact ⟨0, Nat.zero_le _, rfl, rfl, Below.refl _ _⟩
  case round =>
    obtain ⟨j, hj, rfl, rfl, hb⟩ := hrel
    have h1 := h.next hb
    have c0 : wr.cell? ⟨R, 0, none⟩ = some (.slice A L.length cap) := h1.blk.cell 0
    by_cases hlt : j < L.length
    · obtain ⟨y, hy⟩ : ∃ y, L[j]? = some y := ⟨L[j], List.getElem?_eq_getElem hlt⟩
      obtain ⟨g, hA, hbg, hpr⟩ := h1.elem hy
      subst hA
      have hfy := hf y (List.mem_of_getElem? hy)
      have HSN := hid (show balR (L.take (j + 1)) c k = balR (L.take j) c k + (if c = 0 ∨ y.c = c then con y k else 0) from by rw [takeE_snoc hy, balR_snoc])
      have hbd := balR_bd (fun a ha => hf a (List.mem_of_mem_take ha)) c k (L := L.take j)
      have hbd2 := balR_bd (fun a ha => hf a (List.mem_of_mem_take ha)) c k (L := L.take (j + 1))
      have hwt := wtR_take hf j
      have hwt2 := wtR_take hf (j + 1)
      obtain ⟨n, hn⟩ : ∃ n, n = balR (L.take j) c k := ⟨_, rfl⟩
      obtain ⟨n2, hn2⟩ : ∃ n2, n2 = balR (L.take (j + 1)) c k := ⟨_, rfl⟩
      rw [← hn, ← hn2] at HSN
      rw [← hn] at hbd ⊢
      rw [← hn2] at hbd2
      have HN2 := hid hn2
      have HBD := hid (show (-1152921504606846976 ≤ n ∧ n ≤ 1152921504606846976) ∧ -1152921504606846976 ≤ n2 ∧ n2 ≤ 1152921504606846976 from by omega)
      have HF := hid hfy
      have KO := hid (fun w => ropen_any y w hfy.small)
      obtain ⟨yo, yc, yst, ylv, ynet, ytax, yap, ywr, ydep⟩ := y
      have p0 : wr.cell? ⟨g, j * 9, none⟩ = some (.int .i64 yo) := hpr.2 0 _ rfl
      have p1 : wr.cell? ⟨g, j * 9 + 1, none⟩ = some (.int .i64 yc) := hpr.2 1 _ rfl
      have p2 : wr.cell? ⟨g, j * 9 + 2, none⟩ = some (.int .i64 yst) := hpr.2 2 _ rfl
      have p3 : wr.cell? ⟨g, j * 9 + 3, none⟩ = some (.int .i64 ylv) := hpr.2 3 _ rfl
      have p4 : wr.cell? ⟨g, j * 9 + 4, none⟩ = some (.int .i64 ynet) := hpr.2 4 _ rfl
      have p5 : wr.cell? ⟨g, j * 9 + 5, none⟩ = some (.int .i64 ytax) := hpr.2 5 _ rfl
      have p6 : wr.cell? ⟨g, j * 9 + 6, none⟩ = some (.int .i64 yap) := hpr.2 6 _ rfl
      have p7 : wr.cell? ⟨g, j * 9 + 7, none⟩ = some (.int .i64 ywr) := hpr.2 7 _ rfl
      have p8 : wr.cell? ⟨g, j * 9 + 8, none⟩ = some (.int .i64 ydep) := hpr.2 8 _ rfl
      have lR := h1.blk.lt
      have lg := hpr.1
      have HB := hid hb
      clear hfy hbd hbd2 hwt hwt2 hn hn2 hy hpr h1 hb hf hw
      simp only [celC] at KO
      obtain ⟨z, hz⟩ : ∃ z, z = openC (⟨yo, yc, yst, ylv, ynet, ytax, yap, ywr, ydep⟩ : Ca) := ⟨_, rfl⟩
      have HZ := hid hz
      have HFB := hid (show -1152921504606846976 ≤ ydep ∧ ydep ≤ 1152921504606846976 ∧ -1152921504606846976 ≤ yap ∧ yap ≤ 1152921504606846976 ∧ (-1152921504606846976 ≤ ynet ∧ ynet ≤ 1152921504606846976) ∧ (-1152921504606846976 ≤ ytax ∧ ytax ≤ 1152921504606846976) ∧ (-1152921504606846976 ≤ ywr ∧ ywr ≤ 1152921504606846976) ∧ -1152921504606846976 ≤ z ∧ z ≤ 1152921504606846976 ∧ True from by
        have h1 := HF.out.small
        have h2 := HF.out.d0
        have h3 := HF.out.d1
        have h4 := HF.out.open0
        rw [← hz] at h4
        exact ⟨by simp only at h2; omega, by simp only at h3; omega, h1.p.1, h1.p.2, h1.n, h1.t, h1.w, by omega, by omega, trivial⟩)
      rw [← hz] at KO
      have HG := hid (show Blk (wr.alloc (.cells #[.int .i64 yo, .int .i64 yc, .int .i64 yst, .int .i64 ylv, .int .i64 ynet, .int .i64 ytax, .int .i64 yap, .int .i64 ywr, .int .i64 ydep] 47)) wr.heap.size 47 #[.int .i64 yo, .int .i64 yc, .int .i64 yst, .int .i64 ylv, .int .i64 ynet, .int .i64 ytax, .int .i64 yap, .int .i64 ywr, .int .i64 ydep] ∧ Below w.heap.size w (wr.alloc (.cells #[.int .i64 yo, .int .i64 yc, .int .i64 yst, .int .i64 ylv, .int .i64 ynet, .int .i64 ytax, .int .i64 yap, .int .i64 ywr, .int .i64 ydep] 47)) from ⟨Blk.new _ _ _, HB.out.alloc HB.out.size _⟩)
      clear hz
      go_upto_region 6 with fail
      clear c0 lR lg p0 p1 p2 p3 p4 p5 p6 p7 p8
      obtain ⟨wz, hwz⟩ : ∃ wz, wz = wr.alloc (.cells #[.int .i64 yo, .int .i64 yc, .int .i64 yst, .int .i64 ylv, .int .i64 ynet, .int .i64 ytax, .int .i64 yap, .int .i64 ywr, .int .i64 ydep] 47) := ⟨_, rfl⟩
      obtain ⟨G, hG⟩ : ∃ G, G = wr.heap.size := ⟨_, rfl⟩
      obtain ⟨hGB, hbz⟩ := HG.out
      rw [← hwz] at hGB hbz ⊢
      rw [← hG] at hGB ⊢
      clear HG hwz hG HB
      have g0 : wz.cell? ⟨G, 0, none⟩ = some (.int .i64 yo) := hGB.cell 0
      have g1 : wz.cell? ⟨G, 1, none⟩ = some (.int .i64 yc) := hGB.cell 1
      have g2 : wz.cell? ⟨G, 2, none⟩ = some (.int .i64 yst) := hGB.cell 2
      have g3 : wz.cell? ⟨G, 3, none⟩ = some (.int .i64 ylv) := hGB.cell 3
      have g4 : wz.cell? ⟨G, 4, none⟩ = some (.int .i64 ynet) := hGB.cell 4
      have g5 : wz.cell? ⟨G, 5, none⟩ = some (.int .i64 ytax) := hGB.cell 5
      have g6 : wz.cell? ⟨G, 6, none⟩ = some (.int .i64 yap) := hGB.cell 6
      have g7 : wz.cell? ⟨G, 7, none⟩ = some (.int .i64 ywr) := hGB.cell 7
      have g8 : wz.cell? ⟨G, 8, none⟩ = some (.int .i64 ydep) := hGB.cell 8
      have lG := hGB.lt
      have HGZ := hid (And.intro hGB hbz)
      clear hGB hbz
      go_cut [35] (fun v wx => v = .bool (!decide (c = 0 ∨ yc = c)) ∧ wx = wz)
      case first =>
        clear HSN HN2 HBD HF HFB HZ KO HGZ g0 g2 g3 g4 g5 g6 g7 g8
        by_cases hc0 : c = 0
        · subst hc0
          go_wp2_with fail
          go_meet
          exact ⟨by simp, rfl⟩
        · have tc0 : (c != 0) = true := by simpa using hc0
          have HC0 := hid hc0
          clear hc0
          by_cases hcc : yc = c
          · have tc1 : (yc != c) = false := by simp [hcc]
            have HCC := hid hcc
            clear hcc
            go_wp2_with fail
            go_meet
            exact ⟨by simp [HCC.out], rfl⟩
          · have tc1 : (yc != c) = true := by simpa using hcc
            have HCC := hid hcc
            clear hcc
            go_wp2_with fail
            go_meet
            exact ⟨by simp [HCC.out, HC0.out], rfl⟩
      case rest =>
        obtain ⟨rfl, hwx⟩ := hcut
        rw [hwx]
        clear hwx
        by_cases hcc : c = 0 ∨ yc = c
        · have td : decide (c = 0 ∨ yc = c) = true := decide_eq_true hcc
          rw [td]
          rw [if_pos hcc] at HSN
          clear hcc td
          go_upto_if 38 with fail
          go_cut [10] (fun v wx => v = .int .i64 (if yst = 1 then 1 else 0) ∧ wx = wz)
          case first =>
            clear HSN HN2 HBD HF HFB HZ KO HGZ g0 g1 g3 g4 g5 g6 g7 g8
            by_cases hs : yst = 1
            · have ts : (yst == 1) = true := by simp [hs]
              rw [ts]
              have HS := hid hs
              clear hs
              go_wp2_with fail
              go_meet
              exact ⟨by rw [if_pos HS.out], rfl⟩
            · have ts : (yst == 1) = false := by simp [hs]
              rw [ts]
              have HS := hid hs
              clear hs
              go_wp2_with fail
              go_meet
              exact ⟨by rw [if_neg HS.out], rfl⟩
          case rest =>
            obtain ⟨rfl, hwx⟩ := hcut
            rw [hwx]
            clear hwx
            obtain ⟨on, hon⟩ : ∃ on : Int, on = if yst = 1 then 1 else 0 := ⟨_, rfl⟩
            rw [← hon]
            have HON := hid hon
            clear hon
            go_wp2_with fail
            refine (KO.out _).mono ?_
            rintro e w6 ⟨rfl, hb6⟩
            obtain ⟨hGB, hbz⟩ := HGZ.out
            replace hGB := hGB.next hb6
            replace hbz := bthen hbz hb6
            clear KO HGZ hb6 lG g0 g1 g2 g3 g4 g5 g6 g7 g8
            have g0 : w6.cell? ⟨G, 0, none⟩ = some (.int .i64 yo) := hGB.cell 0
            have g1 : w6.cell? ⟨G, 1, none⟩ = some (.int .i64 yc) := hGB.cell 1
            have g2 : w6.cell? ⟨G, 2, none⟩ = some (.int .i64 yst) := hGB.cell 2
            have g3 : w6.cell? ⟨G, 3, none⟩ = some (.int .i64 ylv) := hGB.cell 3
            have g4 : w6.cell? ⟨G, 4, none⟩ = some (.int .i64 ynet) := hGB.cell 4
            have g5 : w6.cell? ⟨G, 5, none⟩ = some (.int .i64 ytax) := hGB.cell 5
            have g6 : w6.cell? ⟨G, 6, none⟩ = some (.int .i64 yap) := hGB.cell 6
            have g7 : w6.cell? ⟨G, 7, none⟩ = some (.int .i64 ywr) := hGB.cell 7
            have g8 : w6.cell? ⟨G, 8, none⟩ = some (.int .i64 ydep) := hGB.cell 8
            have lG := hGB.lt
            have HBZ := hid hbz
            clear hGB hbz
            clear HF g0 g1 g2 g3
            by_cases hs : yst = 1
            · obtain rfl : on = 1 := by rw [HON.out, if_pos hs]
              clear HON
              by_cases hkk : k = 0
              · have hcon := HSN.out
                subst hkk
                have hv : n2 = n + (ydep + yap) := by rw [hcon]; simp [con, hs]
                clear hcon
                have HV := hid hv
                clear hv hs
                obtain ⟨⟨a1, a2⟩, a3, a4⟩ := HBD.out
                obtain ⟨d1, d2, d3, d4, ⟨d5, d6⟩, ⟨d7, d8⟩, ⟨d9, d10⟩, d11, d12, -⟩ := HFB.out
                go_wp2_with fail
                go_roundw
                case rel => exact ⟨j + 1, by omega, by go_num, by rw [← HN2.out, HV.out]; try (first | rfl | (congr 1; omega)), HBZ.out⟩
                case measure => simp [nOf]; omega
              · have hk0 : ¬ k = 0 := hkk
                clear hkk
                by_cases hkk : k = 1
                · have hcon := HSN.out
                  clear hk0
                  subst hkk
                  have hv : n2 = n + (z) := by rw [hcon]; rw [HZ.out]; simp [con]
                  clear hcon
                  have HV := hid hv
                  clear hv hs
                  obtain ⟨⟨a1, a2⟩, a3, a4⟩ := HBD.out
                  obtain ⟨d1, d2, d3, d4, ⟨d5, d6⟩, ⟨d7, d8⟩, ⟨d9, d10⟩, d11, d12, -⟩ := HFB.out
                  go_wp2_with fail
                  go_roundw
                  case rel => exact ⟨j + 1, by omega, by go_num, by rw [← HN2.out, HV.out]; try (first | rfl | (congr 1; omega)), HBZ.out⟩
                  case measure => simp [nOf]; omega
                · have hk1 : ¬ k = 1 := hkk
                  clear hkk
                  by_cases hkk : k = 2
                  · have hcon := HSN.out
                    clear hk0
                    clear hk1
                    subst hkk
                    have hv : n2 = n + (-ynet) := by rw [hcon]; simp [con, hs]
                    clear hcon
                    have HV := hid hv
                    clear hv hs
                    obtain ⟨⟨a1, a2⟩, a3, a4⟩ := HBD.out
                    obtain ⟨d1, d2, d3, d4, ⟨d5, d6⟩, ⟨d7, d8⟩, ⟨d9, d10⟩, d11, d12, -⟩ := HFB.out
                    go_wp2_with fail
                    go_roundw
                    case rel => exact ⟨j + 1, by omega, by go_num, by rw [← HN2.out, HV.out]; try (first | rfl | (congr 1; omega)), HBZ.out⟩
                    case measure => simp [nOf]; omega
                  · have hk2 : ¬ k = 2 := hkk
                    clear hkk
                    by_cases hkk : k = 3
                    · have hcon := HSN.out
                      clear hk0
                      clear hk1
                      clear hk2
                      subst hkk
                      have hv : n2 = n + (-ytax) := by rw [hcon]; simp [con, hs]
                      clear hcon
                      have HV := hid hv
                      clear hv hs
                      obtain ⟨⟨a1, a2⟩, a3, a4⟩ := HBD.out
                      obtain ⟨d1, d2, d3, d4, ⟨d5, d6⟩, ⟨d7, d8⟩, ⟨d9, d10⟩, d11, d12, -⟩ := HFB.out
                      go_wp2_with fail
                      go_roundw
                      case rel => exact ⟨j + 1, by omega, by go_num, by rw [← HN2.out, HV.out]; try (first | rfl | (congr 1; omega)), HBZ.out⟩
                      case measure => simp [nOf]; omega
                    · have hk3 : ¬ k = 3 := hkk
                      clear hkk
                      by_cases hkk : k = 4
                      · have hcon := HSN.out
                        clear hk0
                        clear hk1
                        clear hk2
                        clear hk3
                        subst hkk
                        have hv : n2 = n + (-ydep) := by rw [hcon]; simp [con]
                        clear hcon
                        have HV := hid hv
                        clear hv hs
                        obtain ⟨⟨a1, a2⟩, a3, a4⟩ := HBD.out
                        obtain ⟨d1, d2, d3, d4, ⟨d5, d6⟩, ⟨d7, d8⟩, ⟨d9, d10⟩, d11, d12, -⟩ := HFB.out
                        go_wp2_with fail
                        go_roundw
                        case rel => exact ⟨j + 1, by omega, by go_num, by rw [← HN2.out, HV.out]; try (first | rfl | (congr 1; omega)), HBZ.out⟩
                        case measure => simp [nOf]; omega
                      · have hk4 : ¬ k = 4 := hkk
                        clear hkk
                        by_cases hkk : k = 5
                        · have hcon := HSN.out
                          clear hk0
                          clear hk1
                          clear hk2
                          clear hk3
                          clear hk4
                          subst hkk
                          have hv : n2 = n + (ywr) := by rw [hcon]; simp [con, hs]
                          clear hcon
                          have HV := hid hv
                          clear hv hs
                          obtain ⟨⟨a1, a2⟩, a3, a4⟩ := HBD.out
                          obtain ⟨d1, d2, d3, d4, ⟨d5, d6⟩, ⟨d7, d8⟩, ⟨d9, d10⟩, d11, d12, -⟩ := HFB.out
                          go_wp2_with fail
                          go_roundw
                          case rel => exact ⟨j + 1, by omega, by go_num, by rw [← HN2.out, HV.out]; try (first | rfl | (congr 1; omega)), HBZ.out⟩
                          case measure => simp [nOf]; omega
                        · have hk5 : ¬ k = 5 := hkk
                          clear hkk
                          have hcon := HSN.out
                          have u0 : (k == 0) = false := by simp; omega
                          have u1 : (k == 1) = false := by simp; omega
                          have u2 : (k == 2) = false := by simp; omega
                          have u3 : (k == 3) = false := by simp; omega
                          have u4 : (k == 4) = false := by simp; omega
                          have u5 : (k == 5) = false := by simp; omega
                          have hv : n2 = n := by rw [hcon]; unfold con; simp only; (repeat rw [if_neg (by omega)]); omega
                          clear hk0 hk1 hk2 hk3 hk4 hk5
                          clear hcon
                          have HV := hid hv
                          clear hv hs
                          obtain ⟨⟨a1, a2⟩, a3, a4⟩ := HBD.out
                          obtain ⟨d1, d2, d3, d4, ⟨d5, d6⟩, ⟨d7, d8⟩, ⟨d9, d10⟩, d11, d12, -⟩ := HFB.out
                          go_wp2_with fail
                          go_roundw
                          case rel => exact ⟨j + 1, by omega, by go_num, by rw [← HN2.out, HV.out]; try (first | rfl | (congr 1; omega)), HBZ.out⟩
                          case measure => simp [nOf]; omega
            · obtain rfl : on = 0 := by rw [HON.out, if_neg hs]
              clear HON
              by_cases hkk : k = 0
              · have hcon := HSN.out
                subst hkk
                have hv : n2 = n + (ydep + 0) := by rw [hcon]; simp [con, hs]
                clear hcon
                have HV := hid hv
                clear hv hs
                obtain ⟨⟨a1, a2⟩, a3, a4⟩ := HBD.out
                obtain ⟨d1, d2, d3, d4, ⟨d5, d6⟩, ⟨d7, d8⟩, ⟨d9, d10⟩, d11, d12, -⟩ := HFB.out
                go_wp2_with fail
                go_roundw
                case rel => exact ⟨j + 1, by omega, by go_num, by rw [← HN2.out, HV.out]; try (first | rfl | (congr 1; omega)), HBZ.out⟩
                case measure => simp [nOf]; omega
              · have hk0 : ¬ k = 0 := hkk
                clear hkk
                by_cases hkk : k = 1
                · have hcon := HSN.out
                  clear hk0
                  subst hkk
                  have hv : n2 = n + (z) := by rw [hcon]; rw [HZ.out]; simp [con]
                  clear hcon
                  have HV := hid hv
                  clear hv hs
                  obtain ⟨⟨a1, a2⟩, a3, a4⟩ := HBD.out
                  obtain ⟨d1, d2, d3, d4, ⟨d5, d6⟩, ⟨d7, d8⟩, ⟨d9, d10⟩, d11, d12, -⟩ := HFB.out
                  go_wp2_with fail
                  go_roundw
                  case rel => exact ⟨j + 1, by omega, by go_num, by rw [← HN2.out, HV.out]; try (first | rfl | (congr 1; omega)), HBZ.out⟩
                  case measure => simp [nOf]; omega
                · have hk1 : ¬ k = 1 := hkk
                  clear hkk
                  by_cases hkk : k = 2
                  · have hcon := HSN.out
                    clear hk0
                    clear hk1
                    subst hkk
                    have hv : n2 = n + (0) := by rw [hcon]; simp [con, hs]
                    clear hcon
                    have HV := hid hv
                    clear hv hs
                    obtain ⟨⟨a1, a2⟩, a3, a4⟩ := HBD.out
                    obtain ⟨d1, d2, d3, d4, ⟨d5, d6⟩, ⟨d7, d8⟩, ⟨d9, d10⟩, d11, d12, -⟩ := HFB.out
                    go_wp2_with fail
                    go_roundw
                    case rel => exact ⟨j + 1, by omega, by go_num, by rw [← HN2.out, HV.out]; try (first | rfl | (congr 1; omega)), HBZ.out⟩
                    case measure => simp [nOf]; omega
                  · have hk2 : ¬ k = 2 := hkk
                    clear hkk
                    by_cases hkk : k = 3
                    · have hcon := HSN.out
                      clear hk0
                      clear hk1
                      clear hk2
                      subst hkk
                      have hv : n2 = n + (0) := by rw [hcon]; simp [con, hs]
                      clear hcon
                      have HV := hid hv
                      clear hv hs
                      obtain ⟨⟨a1, a2⟩, a3, a4⟩ := HBD.out
                      obtain ⟨d1, d2, d3, d4, ⟨d5, d6⟩, ⟨d7, d8⟩, ⟨d9, d10⟩, d11, d12, -⟩ := HFB.out
                      go_wp2_with fail
                      go_roundw
                      case rel => exact ⟨j + 1, by omega, by go_num, by rw [← HN2.out, HV.out]; try (first | rfl | (congr 1; omega)), HBZ.out⟩
                      case measure => simp [nOf]; omega
                    · have hk3 : ¬ k = 3 := hkk
                      clear hkk
                      by_cases hkk : k = 4
                      · have hcon := HSN.out
                        clear hk0
                        clear hk1
                        clear hk2
                        clear hk3
                        subst hkk
                        have hv : n2 = n + (-ydep) := by rw [hcon]; simp [con]
                        clear hcon
                        have HV := hid hv
                        clear hv hs
                        obtain ⟨⟨a1, a2⟩, a3, a4⟩ := HBD.out
                        obtain ⟨d1, d2, d3, d4, ⟨d5, d6⟩, ⟨d7, d8⟩, ⟨d9, d10⟩, d11, d12, -⟩ := HFB.out
                        go_wp2_with fail
                        go_roundw
                        case rel => exact ⟨j + 1, by omega, by go_num, by rw [← HN2.out, HV.out]; try (first | rfl | (congr 1; omega)), HBZ.out⟩
                        case measure => simp [nOf]; omega
                      · have hk4 : ¬ k = 4 := hkk
                        clear hkk
                        by_cases hkk : k = 5
                        · have hcon := HSN.out
                          clear hk0
                          clear hk1
                          clear hk2
                          clear hk3
                          clear hk4
                          subst hkk
                          have hv : n2 = n + (0) := by rw [hcon]; simp [con, hs]
                          clear hcon
                          have HV := hid hv
                          clear hv hs
                          obtain ⟨⟨a1, a2⟩, a3, a4⟩ := HBD.out
                          obtain ⟨d1, d2, d3, d4, ⟨d5, d6⟩, ⟨d7, d8⟩, ⟨d9, d10⟩, d11, d12, -⟩ := HFB.out
                          go_wp2_with fail
                          go_roundw
                          case rel => exact ⟨j + 1, by omega, by go_num, by rw [← HN2.out, HV.out]; try (first | rfl | (congr 1; omega)), HBZ.out⟩
                          case measure => simp [nOf]; omega
                        · have hk5 : ¬ k = 5 := hkk
                          clear hkk
                          have hcon := HSN.out
                          have u0 : (k == 0) = false := by simp; omega
                          have u1 : (k == 1) = false := by simp; omega
                          have u2 : (k == 2) = false := by simp; omega
                          have u3 : (k == 3) = false := by simp; omega
                          have u4 : (k == 4) = false := by simp; omega
                          have u5 : (k == 5) = false := by simp; omega
                          have hv : n2 = n := by rw [hcon]; unfold con; simp only; (repeat rw [if_neg (by omega)]); omega
                          clear hk0 hk1 hk2 hk3 hk4 hk5
                          clear hcon
                          have HV := hid hv
                          clear hv hs
                          obtain ⟨⟨a1, a2⟩, a3, a4⟩ := HBD.out
                          obtain ⟨d1, d2, d3, d4, ⟨d5, d6⟩, ⟨d7, d8⟩, ⟨d9, d10⟩, d11, d12, -⟩ := HFB.out
                          go_wp2_with fail
                          go_roundw
                          case rel => exact ⟨j + 1, by omega, by go_num, by rw [← HN2.out, HV.out]; try (first | rfl | (congr 1; omega)), HBZ.out⟩
                          case measure => simp [nOf]; omega
        · have td : decide (c = 0 ∨ yc = c) = false := decide_eq_false hcc
          rw [td]
          rw [if_neg hcc] at HSN
          have HV := hid (show n2 = n from by have := HSN.out; omega)
          clear hcc td HSN HBD HF HFB HZ KO g0 g1 g2 g3 g4 g5 g6 g7 g8 lG
          go_wp2_with fail
          go_roundw
          case rel => exact ⟨j + 1, by omega, by go_num, by rw [← HN2.out, HV.out], HGZ.out.2⟩
          case measure => simp [nOf]; omega
    · have hj' : j = L.length := by omega
      subst hj'
      rw [List.take_length]
      go_wp2_with fail
      go_ret
      exact ⟨rfl, hb⟩
end

end Go.Proofs.YthdmbbfppgenlaaGreat

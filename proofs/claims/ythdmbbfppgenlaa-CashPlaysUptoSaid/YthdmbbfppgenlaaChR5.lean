/-
  The document's book of money: WriteOff, Refund.
-/
import Derived.Test.YthdmbbfppgenlaaChR4
namespace Go.Proofs.Ythdmbbfppgenlaa
open Go.RowKit Go.WideShapes Go.ChangeShapes Go.ChangeAt Go.Deep
set_option linter.unusedVariables false

section
variable {base R cap : Nat} {A : Option Addr} {L : List Ca} {d d' : Int} {w w' w4 wr : World} {F : Int → Option Ca}
/-- The book's accounts fit. -/
structure GoodG (F : Int → Option Ca) (d : Int) : Prop where
  fit : ∀ o a, F o = some a → FitC a ∧ wt a ≤ d
  d0 : 0 ≤ d
  d1 : d ≤ 1152921504606846976
theorem GoodC.goodG {ac : List (Int × CP)} {d : Int} (h : GoodC ac d) : GoodG (cfind ac) d := ⟨fun o a ha => by have := h.of o 0 ha; exact ⟨this.1, Int.le_trans this.2.2 h.tot⟩, h.d0, h.d1⟩
theorem PostR.setK {o : Int} {k : Nat} {a b : Ca} (hF : RelC F L) (hk : L[k]? = some a) (hb : b.o = a.o) (ho : a.o = o) (hR : R < base) (hB : Blk w' R 52 #[.slice A L.length cap, .int .i64 d']) (hO : w'.ownsRow base 109 9 (.slice A (L.set k b).length cap) (L.set k b).length ((L.set k b).flatMap enC9)) (hT : Touch (RT w.heap.size R A) w w') : PostR base R A L F o (some b) d' w w' := by
  have hin : b.o ∈ L.map Ca.o := by rw [hb]; exact List.mem_map_of_mem (List.mem_of_getElem? hk)
  have hu := updK_set linI hF.sorted hk (e := b) hb.symm
  refine ⟨A, cap, L.set k b, ⟨by rw [List.length_set]; exact hB, hO, hR⟩, ?_, by rw [List.length_set]; omega, hT⟩
  have := hF.put (a := b) (L' := L.set k b) (fun _ => hu.symm) (fun hh => absurd hin hh)
  rwa [hb, ho] at this

set_option maxRecDepth 100000 in
set_option maxHeartbeats 16000000 in
theorem rwof_any (h : IsRf base w R A cap L d) (hF : RelC F L) (hg : GoodG F d) (hl : L.length ≤ 140737488355328) (hbw : base ≤ w.heap.size) (o : Int) :
    Calls Try.prog 43 #[.pointer (some ⟨R, 0, none⟩), .int .i64 o] w fun e w' => e = .returned (.int .i64 (wofR F d o).code) ∧ PostR base R A L F o (wofR F d o).acc (wofR F d o).d w w' := by
  have K := rfind_any h o hl
  rcases hF.at_ o with ⟨k, a, hkl, hk, hf, hao, hp⟩ | ⟨hf, hp⟩
  · obtain ⟨hfit, hwt⟩ := hg.fit o a hf
    obtain ⟨g, hA, hbg, hpr⟩ := h.elem hk
    subst hA
    rw [hp] at K
    have e : wofR F d o = if openC a = 0 then noC 170 d else if 1000 < openC a then noC 130 d else if 576460752303423488 - openC a < d then noC 72 d else ⟨false, 0, some (wofB a), d + openC a⟩ := by unfold wofR; rw [hf]
    rw [e]
    have KO := ropen_any a w hfit.small
    simp only [celC] at KO
    replace K := hid K
    have t0 : decide ((k : Int) < 0) = false := decide_eq_false (by omega)
    have c0 : w.cell? ⟨R, 0, none⟩ = some (.slice (some ⟨g, 0, none⟩) L.length cap) := h.blk.cell 0
    have p0 : w.cell? ⟨g, k * 9, none⟩ = some (.int .i64 a.o) := hpr.2 0 _ rfl
    have p1 : w.cell? ⟨g, k * 9 + 1, none⟩ = some (.int .i64 a.c) := hpr.2 1 _ rfl
    have p2 : w.cell? ⟨g, k * 9 + 2, none⟩ = some (.int .i64 a.st) := hpr.2 2 _ rfl
    have p3 : w.cell? ⟨g, k * 9 + 3, none⟩ = some (.int .i64 a.lv) := hpr.2 3 _ rfl
    have p4 : w.cell? ⟨g, k * 9 + 4, none⟩ = some (.int .i64 a.net) := hpr.2 4 _ rfl
    have p5 : w.cell? ⟨g, k * 9 + 5, none⟩ = some (.int .i64 a.tax) := hpr.2 5 _ rfl
    have p6 : w.cell? ⟨g, k * 9 + 6, none⟩ = some (.int .i64 a.ap) := hpr.2 6 _ rfl
    have p7 : w.cell? ⟨g, k * 9 + 7, none⟩ = some (.int .i64 a.wr) := hpr.2 7 _ rfl
    have p8 : w.cell? ⟨g, k * 9 + 8, none⟩ = some (.int .i64 a.dep) := hpr.2 8 _ rfl
    have hz := hfit.open0
    have HX := hid (And.intro h (And.intro hF (And.intro hk (And.intro hao (And.intro hpr hfit)))))
    have HG := hid (And.intro hg.d0 hg.d1)
    obtain ⟨z, hz0⟩ : ∃ z, z = openC a := ⟨_, rfl⟩
    rw [← hz0] at KO hz ⊢
    replace KO := hid KO
    have HZ := hid hz0
    have hRg : g ≠ R := by have := h.lt; omega
    have HS := hid (And.intro h.lt hbg)
    clear h hF hg hk hf hao hp hfit hwt hpr e hz0
    by_cases z0 : z = 0
    · rw [if_pos z0]
      have tz : (z == 0) = true := by simp [z0]
      clear hz z0
      go_enter Try.func43, Try.ntmps43
      go_wp2_with fail
      refine K.out.mono ?_
      rintro e w1 ⟨rfl, rfl⟩
      go_wp2_with fail
      refine KO.out.mono ?_
      rintro e w1 ⟨rfl, hb⟩
      clear c0 p0 p1 p2 p3 p4 p5 p6 p7 p8
      go_wp2_with fail
      go_ret
      exact ⟨rfl, PostR.same HX.out.1 HX.out.2.1 o hb⟩
    · rw [if_neg z0]
      have tz : (z == 0) = false := by simpa using z0
      clear z0
      by_cases z1 : 1000 < z
      · rw [if_pos z1]
        have tz1 : decide (1000 < z) = true := decide_eq_true z1
        clear hz
        go_enter Try.func43, Try.ntmps43
        go_wp2_with fail
        refine K.out.mono ?_
        rintro e w1 ⟨rfl, rfl⟩
        go_wp2_with fail
        refine KO.out.mono ?_
        rintro e w1 ⟨rfl, hb⟩
        clear c0 p0 p1 p2 p3 p4 p5 p6 p7 p8
        go_wp2_with fail
        go_ret
        exact ⟨rfl, PostR.same HX.out.1 HX.out.2.1 o hb⟩
      · rw [if_neg z1]
        have tz1 : decide (1000 < z) = false := decide_eq_false z1
        have wz : IntKind.i64.wrap (d + z) = d + z := IntWalk.i64_in _ ⟨by have := HG.out; omega, by have := HG.out; omega⟩
        by_cases hr : 576460752303423488 - z < d
        · rw [if_pos hr]
          have tr : decide (576460752303423488 < d + z) = true := decide_eq_true (by omega)
          clear hz hr
          go_enter Try.func43, Try.ntmps43
          go_wp2_with fail
          refine K.out.mono ?_
          rintro e w1 ⟨rfl, rfl⟩
          go_wp2_with fail
          refine KO.out.mono ?_
          rintro e w1 ⟨rfl, hb⟩
          clear c0 p0 p1 p2 p3 p4 p5 p6 p7 p8
          have c1 : w1.cell? ⟨R, 1, none⟩ = some (.int .i64 d) := (HX.out.1.next hb).blk.cell 1
          go_wp2_with fail
          go_ret
          exact ⟨rfl, PostR.same HX.out.1 HX.out.2.1 o hb⟩
        · rw [if_neg hr]
          have tr : decide (576460752303423488 < d + z) = false := decide_eq_false (by omega)
          have ww : IntKind.i64.wrap (a.wr + z) = a.wr + z := IntWalk.i64_in _ ⟨by have := HX.out.2.2.2.2.2.w0; omega, by have := HX.out.2.2.2.2.2.small.w; omega⟩
          clear hr
          go_enter Try.func43, Try.ntmps43
          go_wp2_with fail
          refine K.out.mono ?_
          rintro e w1 ⟨rfl, rfl⟩
          go_wp2_with fail
          refine KO.out.mono ?_
          rintro e w1 ⟨rfl, hb⟩
          clear c0 p0 p1 p2 p3 p4 p5 p6 p7 p8
          have h1 := HX.out.1.next hb
          have c0 : w1.cell? ⟨R, 0, none⟩ = some (.slice (some ⟨g, 0, none⟩) L.length cap) := h1.blk.cell 0
          have c1 : w1.cell? ⟨R, 1, none⟩ = some (.int .i64 d) := h1.blk.cell 1
          have fR := h1.blk.free 1
          have lR := h1.blk.lt
          have hpr1 := HX.out.2.2.2.2.1.next hb
          have p7 : w1.cell? ⟨g, k * 9 + 7, none⟩ = some (.int .i64 a.wr) := hpr1.2 7 _ rfl
          have f7 := own_free h1.own (k * 9 + 7)
          have lg := hpr1.1
          have hO := own_field enC9_len (h1.next (below_drewN (Below.refl _ _) 1 : Below w1.heap.size w1 w1.drew)).own (k := k) (j := 7) (x := a) (x' := wofB a) (v := .int .i64 (a.wr + z)) HX.out.2.2.1 (by omega) (by unfold wofB; rw [← HZ.out]; rfl)
          have hB := ((h1.next (below_drewN (Below.refl _ _) 1 : Below w1.heap.size w1 w1.drew)).blk).far (p := ⟨g, k * 9 + 7, none⟩) hRg.symm (.int .i64 (a.wr + z))
          have HO := hid (And.intro hO.1 (And.intro hB (And.intro ((Touch.of_below (S := RT w.heap.size R (some ⟨g, 0, none⟩)) hb).drew.then ((Touch.of_grown hO.2).mono (fun k' hk' => .inr (.inl (by rw [hk']; rfl))))) (Nat.le_refl 0))))
          clear h1 hpr1 hO hB hb
          go_wp2_with fail
          refine wp_tail 17 (by kernel_rfl) (by kernel_rfl) ?_
          simp only [List.take_succ_cons, List.take_zero, List.drop_succ_cons, List.drop_zero]
          repeat still_step
          refine wpStill_nil ?_
          go_wp2_with fail
          go_ret
          obtain ⟨o1, o2, o3, _⟩ := HO.out
          have HE := own_touch o1 (Touch.setCell _ R 1 (.int .i64 (d + z))) (fun g' hg' e => by have := (o1.lt g' hg').1; have := HS.out.1; omega)
          exact ⟨rfl, PostR.setK HX.out.2.1 HX.out.2.2.1 rfl HX.out.2.2.2.1 HS.out.1 (o2.set_ 1 (.int .i64 (d + z))) HE (o3.then ((Touch.setCell _ R 1 (.int .i64 (d + z))).mono (fun k' hk' => .inl hk')))⟩
  · have e : wofR F d o = noC 70 d := by unfold wofR; rw [hf]
    rw [e]
    rw [hp] at K
    replace K := hid K
    have H := hid (And.intro h hF)
    clear h hF hg hf hp e
    go_enter Try.func43, Try.ntmps43
    go_wp2_with fail
    refine K.out.mono ?_
    rintro e w1 ⟨rfl, rfl⟩
    go_wp2_with fail
    go_ret
    exact ⟨rfl, PostR.same H.out.1 H.out.2 o (Below.refl _ _)⟩

set_option maxRecDepth 100000 in
set_option maxHeartbeats 16000000 in
theorem rref_any (h : IsRf base w R A cap L d) (hF : RelC F L) (hg : GoodG F d) (hl : L.length ≤ 140737488355328) (hbw : base ≤ w.heap.size) (o : Int) :
    Calls Try.prog 45 #[.pointer (some ⟨R, 0, none⟩), .int .i64 o] w fun e w' => e = .returned (.tuple #[.int .i64 (refR F d o).1, .int .i64 (refR F d o).2.code]) ∧ PostR base R A L F o (refR F d o).2.acc (refR F d o).2.d w w' := by
  have K := rfind_any h o hl
  rcases hF.at_ o with ⟨k, a, hkl, hk, hf, hao, hp⟩ | ⟨hf, hp⟩
  · obtain ⟨hfit, hwt⟩ := hg.fit o a hf
    obtain ⟨g, hA, hbg, hpr⟩ := h.elem hk
    subst hA
    rw [hp] at K
    have e : refR F d o = if 576460752303423488 - a.dep < d then (0, noC 72 d) else (a.dep, ⟨false, 0, some (refB a), d + a.dep⟩) := by unfold refR; rw [hf]
    rw [e]
    replace K := hid K
    have t0 : decide ((k : Int) < 0) = false := decide_eq_false (by omega)
    have c0 : w.cell? ⟨R, 0, none⟩ = some (.slice (some ⟨g, 0, none⟩) L.length cap) := h.blk.cell 0
    have c1 : w.cell? ⟨R, 1, none⟩ = some (.int .i64 d) := h.blk.cell 1
    have p8 : w.cell? ⟨g, k * 9 + 8, none⟩ = some (.int .i64 a.dep) := hpr.2 8 _ rfl
    have f8 := own_free h.own (k * 9 + 8)
    have fR := h.blk.free 1
    have lR := h.blk.lt
    have lg := hpr.1
    have hRg : g ≠ R := by have := h.lt; omega
    have wn : IntKind.i64.wrap (d + a.dep) = d + a.dep := IntWalk.i64_in _ ⟨by have := hg.d0; have := hfit.d0; omega, by have := hg.d1; have := hfit.d1; omega⟩
    have HX := hid (And.intro h (And.intro hF (And.intro hk (And.intro hao hbg))))
    clear hF hg hk hf hao hp hfit hwt hpr e
    by_cases hr : 576460752303423488 - a.dep < d
    · rw [if_pos hr]
      have tr : decide (576460752303423488 < d + a.dep) = true := decide_eq_true (by omega)
      clear hr h
      go_enter Try.func45, Try.ntmps45
      go_wp2_with fail
      refine K.out.mono ?_
      rintro e w1 ⟨rfl, rfl⟩
      go_wp2_with fail
      go_ret2
      exact ⟨rfl, PostR.same HX.out.1 HX.out.2.1 o (Below.refl _ _)⟩
    · rw [if_neg hr]
      have tr : decide (576460752303423488 < d + a.dep) = false := decide_eq_false (by omega)
      have hB := (h.blk.set_ 1 (.int .i64 (d + a.dep)))
      have hO1 := own_touch h.own (Touch.setCell w R 1 (.int .i64 (d + a.dep))) (fun g' hg' e => by have := (h.own.lt g' hg').1; have := h.lt; omega)
      have hO := own_field enC9_len hO1 (k := k) (j := 8) (x := a) (x' := refB a) (v := .int .i64 0) HX.out.2.2.1 (by omega) rfl
      have HO := hid (And.intro hO.1 (And.intro (hB.far (p := ⟨g, k * 9 + 8, none⟩) hRg.symm (.int .i64 0)) (((Touch.setCell w R 1 (.int .i64 (d + a.dep))).mono (fun k' hk' => (.inl hk' : RT w.heap.size R (some ⟨g, 0, none⟩) k'))).then ((Touch.of_grown hO.2).mono (fun k' hk' => .inr (.inl (by rw [hk']; rfl)))))))
      clear hr h hB hO1 hO
      go_enter Try.func45, Try.ntmps45
      go_wp2_with fail
      refine K.out.mono ?_
      rintro e w1 ⟨rfl, rfl⟩
      go_wp2_with fail
      go_ret2
      exact ⟨rfl, PostR.setK HX.out.2.1 HX.out.2.2.1 rfl HX.out.2.2.2.1 HX.out.1.lt HO.out.2.1 HO.out.1 HO.out.2.2⟩
  · have e : refR F d o = (0, noC 70 d) := by unfold refR; rw [hf]
    rw [e]
    rw [hp] at K
    replace K := hid K
    have H := hid (And.intro h hF)
    clear h hF hg hf hp e
    go_enter Try.func45, Try.ntmps45
    go_wp2_with fail
    refine K.out.mono ?_
    rintro e w1 ⟨rfl, rfl⟩
    go_wp2_with fail
    go_ret2
    exact ⟨rfl, PostR.same H.out.1 H.out.2 o (Below.refl _ _)⟩
end

end Go.Proofs.Ythdmbbfppgenlaa

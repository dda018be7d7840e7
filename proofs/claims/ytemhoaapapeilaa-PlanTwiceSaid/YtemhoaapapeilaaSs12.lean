/-
  The law's own small functions: steps, at steps that are alike.
-/
import Derived.Test.YtemhoaapapeilaaWk12
namespace Go.Proofs.Ytemhoaapapeilaa
open Go.RowKit Go.WideShapes Go.ChangeShapes Go.ChangeAt Go.Deep
set_option linter.unusedVariables false

set_option maxRecDepth 100000 in
set_option maxHeartbeats 8000000 in
theorem steps_same (s : Stp) (A B : Option Addr) (ca cb : Nat) (w : World) (hA : Rd w A (s.after.flatMap enB)) (hB : Rd w B (s.after.flatMap enB)) (hl : s.after.length ≤ 140737488355328) :
    Calls Try.prog 15 #[.agg (enSt (twn s A ca)).toArray, .agg (enSt (twn s B cb)).toArray] w fun e w' => e = .returned (.bool true) ∧ Below w.heap.size w w' := by
  obtain ⟨xn, xv, xu, xe, xf, xr, xy, xw, xA, xc, xl⟩ := s
  rw [show (enSt (twn (⟨xn, xv, xu, xe, xf, xr, xy, xw, xA, xc, xl⟩ : Stp) A ca)).toArray = #[.string xn, .string xv, .string xu, .string xe, .bool xf, .int .i64 xr, .int .i64 xy, .int .i64 xw, .slice A xl.length ca] from rfl]
  rw [show (enSt (twn (⟨xn, xv, xu, xe, xf, xr, xy, xw, xA, xc, xl⟩ : Stp) B cb)).toArray = #[.string xn, .string xv, .string xu, .string xe, .bool xf, .int .i64 xr, .int .i64 xy, .int .i64 xw, .slice B xl.length cb] from rfl]
  simp only at hA hB hl
  have hB1 := Blk.new w 40 #[.string xn, .string xv, .string xu, .string xe, .bool xf, .int .i64 xr, .int .i64 xy, .int .i64 xw, .slice A xl.length ca]
  have hw1 : Below w.heap.size w (w.alloc (.cells #[.string xn, .string xv, .string xu, .string xe, .bool xf, .int .i64 xr, .int .i64 xy, .int .i64 xw, .slice A xl.length ca] 40)) := (Below.refl _ _).alloc (Nat.le_refl _) _
  obtain ⟨w1, e1⟩ : ∃ w1, w1 = w.alloc (.cells #[.string xn, .string xv, .string xu, .string xe, .bool xf, .int .i64 xr, .int .i64 xy, .int .i64 xw, .slice A xl.length ca] 40) := ⟨_, rfl⟩
  obtain ⟨G1, g1⟩ : ∃ G1, G1 = w.heap.size := ⟨_, rfl⟩
  rw [← e1] at hB1 hw1
  rw [← g1] at hB1
  have hB2 := Blk.new w1 40 #[.string xn, .string xv, .string xu, .string xe, .bool xf, .int .i64 xr, .int .i64 xy, .int .i64 xw, .slice B xl.length cb]
  have hw2 : Below w1.heap.size w1 (w1.alloc (.cells #[.string xn, .string xv, .string xu, .string xe, .bool xf, .int .i64 xr, .int .i64 xy, .int .i64 xw, .slice B xl.length cb] 40)) := (Below.refl _ _).alloc (Nat.le_refl _) _
  obtain ⟨w2, e2⟩ : ∃ w2, w2 = w1.alloc (.cells #[.string xn, .string xv, .string xu, .string xe, .bool xf, .int .i64 xr, .int .i64 xy, .int .i64 xw, .slice B xl.length cb] 40) := ⟨_, rfl⟩
  obtain ⟨G2, g2⟩ : ∃ G2, G2 = w1.heap.size := ⟨_, rfl⟩
  rw [← e2] at hB2 hw2
  rw [← g2] at hB2
  have hC1 := hB1.next hw2
  have HW := hid (And.intro e1 (And.intro g1 (And.intro e2 g2)))
  have HX := hid (And.intro hC1 (And.intro hB2 (And.intro (hA.below hw1) (hB.below hw1))))
  have HY := hid (bthen hw1 hw2)
  have HZ := hid hw2
  clear hB1 hw1 e1 g1 hB2 hw2 e2 g2 hC1 hA hB
  go_enter Try.func15, Try.ntmps15
  go_upto_region 1 with fail
  have hsz : w1.heap.size = w.heap.size + 1 := by rw [HW.out.1, World.size_alloc]
  rw [← HW.out.1]
  try rw [← HW.out.2.1]
  have hg2 : G1 + 1 = G2 := by rw [HW.out.2.1, HW.out.2.2.2]; omega
  try rw [hg2]
  rw [← HW.out.2.2.1]
  clear hsz hg2
  have a8 : w2.cell? ⟨G1, 8, none⟩ = some (.slice A xl.length ca) := HX.out.1.cell 8
  have b8 : w2.cell? ⟨G2, 8, none⟩ = some (.slice B xl.length cb) := HX.out.2.1.cell 8
  have l1 := HX.out.1.lt
  have l2 := HX.out.2.1.lt
  have tl : ((xl.length : Int) != (xl.length : Int)) = false := by simp
  go_wp2_with fail
  go_loopw [16] (fun i wr => ∃ k : Nat, k ≤ xl.length ∧ i = .int .i64 k ∧ Hid (Below w2.heap.size w2 wr)) (fun i _ => xl.length - nOf i)
  case atStart => exact ⟨0, Nat.zero_le _, rfl, hid (Below.refl _ _)⟩
  case round =>
    clear a8 b8 l1 l2 tl
    obtain ⟨k, hk, rfl, hb⟩ := hrel
    have a0 : wr.cell? ⟨G1, 0, none⟩ = some (.string xn) := (HX.out.1.next hb.out).cell 0
    have a1 : wr.cell? ⟨G1, 1, none⟩ = some (.string xv) := (HX.out.1.next hb.out).cell 1
    have a2 : wr.cell? ⟨G1, 2, none⟩ = some (.string xu) := (HX.out.1.next hb.out).cell 2
    have a3 : wr.cell? ⟨G1, 3, none⟩ = some (.string xe) := (HX.out.1.next hb.out).cell 3
    have a4 : wr.cell? ⟨G1, 4, none⟩ = some (.bool xf) := (HX.out.1.next hb.out).cell 4
    have a5 : wr.cell? ⟨G1, 5, none⟩ = some (.int .i64 xr) := (HX.out.1.next hb.out).cell 5
    have a6 : wr.cell? ⟨G1, 6, none⟩ = some (.int .i64 xy) := (HX.out.1.next hb.out).cell 6
    have a7 : wr.cell? ⟨G1, 7, none⟩ = some (.int .i64 xw) := (HX.out.1.next hb.out).cell 7
    have a8 : wr.cell? ⟨G1, 8, none⟩ = some (.slice A xl.length ca) := (HX.out.1.next hb.out).cell 8
    have b0 : wr.cell? ⟨G2, 0, none⟩ = some (.string xn) := (HX.out.2.1.next hb.out).cell 0
    have b1 : wr.cell? ⟨G2, 1, none⟩ = some (.string xv) := (HX.out.2.1.next hb.out).cell 1
    have b2 : wr.cell? ⟨G2, 2, none⟩ = some (.string xu) := (HX.out.2.1.next hb.out).cell 2
    have b3 : wr.cell? ⟨G2, 3, none⟩ = some (.string xe) := (HX.out.2.1.next hb.out).cell 3
    have b4 : wr.cell? ⟨G2, 4, none⟩ = some (.bool xf) := (HX.out.2.1.next hb.out).cell 4
    have b5 : wr.cell? ⟨G2, 5, none⟩ = some (.int .i64 xr) := (HX.out.2.1.next hb.out).cell 5
    have b6 : wr.cell? ⟨G2, 6, none⟩ = some (.int .i64 xy) := (HX.out.2.1.next hb.out).cell 6
    have b7 : wr.cell? ⟨G2, 7, none⟩ = some (.int .i64 xw) := (HX.out.2.1.next hb.out).cell 7
    have b8 : wr.cell? ⟨G2, 8, none⟩ = some (.slice B xl.length cb) := (HX.out.2.1.next hb.out).cell 8
    have l1 := (HX.out.1.next hb.out).lt
    have l2 := (HX.out.2.1.next hb.out).lt
    by_cases hlt : k < xl.length
    · obtain ⟨x, hx⟩ : ∃ x, xl[k]? = some x := ⟨xl[k], List.getElem?_eq_getElem hlt⟩
      obtain ⟨b, o, hAA, _, hcc⟩ := ((HX.out.2.2.1.below HZ.out).below hb.out).at_ 1 (fun _ => rfl) (by omega) hx
      obtain ⟨c, p, hBB, _, hcc2⟩ := ((HX.out.2.2.2.below HZ.out).below hb.out).at_ 1 (fun _ => rfl) (by omega) hx
      subst hAA
      subst hBB
      have q0 : wr.cell? ⟨b, o + k * 1, none⟩ = some (.string x) := hcc 0 _ rfl
      have q2 : wr.cell? ⟨c, p + k * 1, none⟩ = some (.string x) := hcc2 0 _ rfl
      rw [Nat.mul_one] at q0 q2
      have tx : (x.toList == x.toList) = true := by simp
      clear a0 a1 a2 a3 a4 a5 a6 a7 b0 b1 b2 b3 b4 b5 b6 b7 hcc hcc2 hx
      go_wp2_with fail
      go_quiet (fail)
      go_wp2_with fail
      go_roundw
      case rel => exact ⟨k + 1, by omega, by go_num, hid (bthen hb.out (belowN _ _))⟩
      case measure => simp [nOf]; omega
    · have t0 : (xn.toList == xn.toList) = true := by simp
      have t1 : (xv.toList == xv.toList) = true := by simp
      have t2 : (xu.toList == xu.toList) = true := by simp
      have t3 : (xe.toList == xe.toList) = true := by simp
      have t4 : (xf == xf) = true := by simp
      have t5 : (xr == xr) = true := by simp
      have t6 : (xy == xy) = true := by simp
      have t7 : (xw == xw) = true := by simp
      go_wp2_with fail
      go_ret
      exact ⟨rfl, bthen HY.out hb.out⟩

end Go.Proofs.Ytemhoaapapeilaa

/-
  The document's book of money: Invoice, Receive.
-/
import Derived.Test.YthdmbbfppgenlaaGreatChR3
namespace Go.Proofs.YthdmbbfppgenlaaGreat
open Go.RowKit Go.WideShapes Go.ChangeShapes Go.ChangeAt Go.Deep
set_option linter.unusedVariables false

section
variable {base R cap : Nat} {A : Option Addr} {L : List Ca} {d : Int} {w w' w4 wr : World} {F : Int → Option Ca}
theorem PostR.same (h : IsRf base w R A cap L d) (hF : RelC F L) (o : Int) (hb : Below w.heap.size w w') : PostR base R A L F o none d w w' := ⟨A, cap, L, h.next hb, hF, by omega, .of_below hb⟩
theorem PostR.after {w3 : World} {o d' : Int} {x : Option Ca} (hT : Touch (· = R) w w3) (hP : PostR base R A L F o x d' w3 w') : PostR base R A L F o x d' w w' := by
  obtain ⟨A', cap', L', h1, h2, h3, h4⟩ := hP
  refine ⟨A', cap', L', h1, h2, h3, (hT.mono (fun k hk => (.inl hk : RT w.heap.size R A k))).then (h4.mono (fun k hk => ?_))⟩
  rcases hk with e | e | e
  · exact .inl e
  · exact .inr (.inl e)
  · exact .inr (.inr (Nat.le_trans hT.size e))
/-- What the document's book must be. -/
structure GoodF (F : Int → Option Ca) (d : Int) : Prop where
  fit : ∀ o c, 1 ≤ o → 1 ≤ c ∧ c ≤ 64 → FitC (acOf F o c) ∧ (acOf F o c).o = o ∧ wt (acOf F o c) ≤ d
  d0 : 0 ≤ d
  d1 : d ≤ 1152921504606846976
theorem GoodC.good {ac : List (Int × CP)} {d : Int} (h : GoodC ac d) : GoodF (cfind ac) d := ⟨fun o c h1 h2 => by have := acOf_fit h h1 h2; exact ⟨this.1, this.2.1, Int.le_trans this.2.2 h.tot⟩, h.d0, h.d1⟩

set_option maxRecDepth 100000 in
set_option maxHeartbeats 16000000 in
theorem rinv_any (h : IsRf base w R A cap L d) (hF : RelC F L) (hg : GoodF F d) (hl : L.length * 72 + 72 ≤ 140737488355328) (hbw : base ≤ w.heap.size) (o c net tax : Int) :
    Calls Tryz.prog 66 #[.pointer (some ⟨R, 0, none⟩), .int .i64 o, .int .i64 c, .int .i64 net, .int .i64 tax] w fun e w' => e = .returned (.tuple #[.bool (invR F d o c net tax).paid, .int .i64 (invR F d o c net tax).code]) ∧ PostR base R A L F o (invR F d o c net tax).acc (invR F d o c net tax).d w w' := by
  by_cases hok : okInv o c net tax
  · unfold invR
    rw [if_pos hok]
    have O := hid (rof_any h hF o c (by omega))
    have hfa := hg.fit o c hok.1.1 hok.1.2
    obtain ⟨a0, ha0⟩ : ∃ a0, a0 = acOf F o c := ⟨_, rfl⟩
    rw [← ha0] at hfa O ⊢
    have H := hid (And.intro h (And.intro hF hbw))
    have HG := hid hg
    have HOK := hid hok
    have HFA := hid hfa
    obtain ⟨k1, k2⟩ := hok
    obtain ⟨k10, k11, k12⟩ := k1
    obtain ⟨⟨k3, k4⟩, ⟨k5, k6⟩⟩ := k2
    have t0 : decide (o < 1) = false := decide_eq_false (by omega)
    have t1 : decide (c < 1) = false := decide_eq_false (by omega)
    have t2 : decide (64 < c) = false := decide_eq_false (by omega)
    have t3 : decide (net < 0) = false := decide_eq_false (by omega)
    have t4 : decide (281474976710656 < net) = false := decide_eq_false (by omega)
    have t5 : decide (tax < 0) = false := decide_eq_false (by omega)
    have t6 : decide (281474976710656 < tax) = false := decide_eq_false (by omega)
    clear h hF hg hfa hbw ha0
    have W : Hid (∀ w1 : World, Below w.heap.size w w1 → IsRf base (w1.alloc (.cells #[.int .i64 a0.o, .int .i64 a0.c, .int .i64 a0.st, .int .i64 a0.lv, .int .i64 a0.net, .int .i64 a0.tax, .int .i64 a0.ap, .int .i64 a0.wr, .int .i64 a0.dep] 47)) R A cap L d ∧ Below w.heap.size w (w1.alloc (.cells #[.int .i64 a0.o, .int .i64 a0.c, .int .i64 a0.st, .int .i64 a0.lv, .int .i64 a0.net, .int .i64 a0.tax, .int .i64 a0.ap, .int .i64 a0.wr, .int .i64 a0.dep] 47))) := hid (fun w1 hb => ⟨(H.out.1.next hb).alloc _, hb.alloc hb.size _⟩)
    by_cases hc : a0.c = c
    · rw [if_neg (fun e => e hc)]
      have tc : (a0.c != c) = false := by simp [hc]
      have HC := hid hc
      by_cases hs : a0.st = 0
      · rw [if_neg (fun e => e hs)]
        have ts : (a0.st != 0) = false := by simp [hs]
        have HSS := hid hs
        clear hs
        clear hc
        have w0 : IntKind.i64.wrap (d + net) = d + net := IntWalk.i64_in _ ⟨by have := HG.out.d0; omega, by have := HG.out.d1; omega⟩
        have w00 : IntKind.i64.wrap (d + net + tax) = d + net + tax := IntWalk.i64_in _ ⟨by have := HG.out.d0; omega, by have := HG.out.d1; omega⟩
        by_cases hr : 576460752303423488 - (net + tax) < d
        · rw [if_pos hr]
          have tr : decide (576460752303423488 < d + net + tax) = true := decide_eq_true (by omega)
          clear hr
          simp only [celC] at O
          go_enter Tryz.func66, Tryz.ntmps66
          go_wp2_with fail
          refine O.out.mono ?_
          rintro e w1 ⟨rfl, hb1⟩
          obtain ⟨hr2, hb2⟩ := W.out w1 hb1
          have hG2 := Blk.new w1 47 #[.int .i64 a0.o, .int .i64 a0.c, .int .i64 a0.st, .int .i64 a0.lv, .int .i64 a0.net, .int .i64 a0.tax, .int .i64 a0.ap, .int .i64 a0.wr, .int .i64 a0.dep]
          obtain ⟨w2, hw2⟩ : ∃ w2, w2 = w1.alloc (.cells #[.int .i64 a0.o, .int .i64 a0.c, .int .i64 a0.st, .int .i64 a0.lv, .int .i64 a0.net, .int .i64 a0.tax, .int .i64 a0.ap, .int .i64 a0.wr, .int .i64 a0.dep] 47) := ⟨_, rfl⟩
          obtain ⟨G1, hG1⟩ : ∃ G1, G1 = w1.heap.size := ⟨_, rfl⟩
          have hGR : G1 ≠ R := by have := (H.out.1.next hb1).blk.lt; omega
          have hGw : w.heap.size ≤ G1 := by rw [hG1]; exact hb1.size
          have c1 : w1.cell? ⟨R, 1, none⟩ = some (.int .i64 d) := (H.out.1.next hb1).blk.cell 1
          have lR : R < w1.heap.size := (H.out.1.next hb1).blk.lt
          have fR := (H.out.1.next hb1).blk.free 1
          rw [← hw2] at hr2 hb2 hG2
          rw [← hG1] at hG2
          have HW2 := hid hw2
          have HG1 := hid hG1
          have HB1 := hid hb1
          have H2 := hid (And.intro hr2 (And.intro hb2 hG2))
          clear hr2 hb2 hG2 hw2 hG1 hb1 W O
          go_wp2_with fail
          go_ret2
          rw [← HW2.out]
          exact ⟨rfl, PostR.same H.out.1 H.out.2.1 o H2.out.2.1⟩
        · rw [if_neg hr]
          have tr : decide (576460752303423488 < d + net + tax) = false := decide_eq_false (by omega)
          have HR := hid hr
          clear hr
          simp only [celC] at O
          go_enter Tryz.func66, Tryz.ntmps66
          go_wp2_with fail
          refine O.out.mono ?_
          rintro e w1 ⟨rfl, hb1⟩
          obtain ⟨hr2, hb2⟩ := W.out w1 hb1
          have hG2 := Blk.new w1 47 #[.int .i64 a0.o, .int .i64 a0.c, .int .i64 a0.st, .int .i64 a0.lv, .int .i64 a0.net, .int .i64 a0.tax, .int .i64 a0.ap, .int .i64 a0.wr, .int .i64 a0.dep]
          obtain ⟨w2, hw2⟩ : ∃ w2, w2 = w1.alloc (.cells #[.int .i64 a0.o, .int .i64 a0.c, .int .i64 a0.st, .int .i64 a0.lv, .int .i64 a0.net, .int .i64 a0.tax, .int .i64 a0.ap, .int .i64 a0.wr, .int .i64 a0.dep] 47) := ⟨_, rfl⟩
          obtain ⟨G1, hG1⟩ : ∃ G1, G1 = w1.heap.size := ⟨_, rfl⟩
          have hGR : G1 ≠ R := by have := (H.out.1.next hb1).blk.lt; omega
          have hGw : w.heap.size ≤ G1 := by rw [hG1]; exact hb1.size
          have c1 : w1.cell? ⟨R, 1, none⟩ = some (.int .i64 d) := (H.out.1.next hb1).blk.cell 1
          have lR : R < w1.heap.size := (H.out.1.next hb1).blk.lt
          have fR := (H.out.1.next hb1).blk.free 1
          rw [← hw2] at hr2 hb2 hG2
          rw [← hG1] at hG2
          have HW2 := hid hw2
          have HG1 := hid hG1
          have HB1 := hid hb1
          have H2 := hid (And.intro hr2 (And.intro hb2 hG2))
          clear hr2 hb2 hG2 hw2 hG1 hb1 W O
          have e0 : w2.cell? ⟨G1, 0, none⟩ = some (.int .i64 a0.o) := H2.out.2.2.cell 0
          have e1 : w2.cell? ⟨G1, 1, none⟩ = some (.int .i64 a0.c) := H2.out.2.2.cell 1
          have e2 : w2.cell? ⟨G1, 2, none⟩ = some (.int .i64 a0.st) := H2.out.2.2.cell 2
          have e3 : w2.cell? ⟨G1, 3, none⟩ = some (.int .i64 a0.lv) := H2.out.2.2.cell 3
          have e4 : w2.cell? ⟨G1, 4, none⟩ = some (.int .i64 a0.net) := H2.out.2.2.cell 4
          have e5 : w2.cell? ⟨G1, 5, none⟩ = some (.int .i64 a0.tax) := H2.out.2.2.cell 5
          have e6 : w2.cell? ⟨G1, 6, none⟩ = some (.int .i64 a0.ap) := H2.out.2.2.cell 6
          have e7 : w2.cell? ⟨G1, 7, none⟩ = some (.int .i64 a0.wr) := H2.out.2.2.cell 7
          have e8 : w2.cell? ⟨G1, 8, none⟩ = some (.int .i64 a0.dep) := H2.out.2.2.cell 8
          have lG1 : G1 < w2.heap.size := H2.out.2.2.lt
          have c2 : w2.cell? ⟨R, 1, none⟩ = some (.int .i64 d) := H2.out.1.blk.cell 1
          have fR2 := H2.out.1.blk.free 1
          have lR2 : R < w2.heap.size := H2.out.1.blk.lt
          have f2 := H2.out.2.2.free 2
          have f4 := H2.out.2.2.free 4
          have f5 := H2.out.2.2.free 5
          go_wp2_with fail
          clear e0 e1 e2 e3 e4 e5 e6 e7 e8 lG1 c2 fR2 lR2 f2 f4 f5
          have hb1 := HB1.out
          have h1 := H.out.1.next hb1
          have hB3 := (h1.blk.set_ 1 (.int .i64 (d + net + tax))).alloc (.cells #[.int .i64 a0.o, .int .i64 a0.c, .int .i64 1, .int .i64 a0.lv, .int .i64 net, .int .i64 tax, .int .i64 a0.ap, .int .i64 a0.wr, .int .i64 a0.dep] 47)
          have hT0 : Touch (· = R) w ((w1.setCell ⟨R, 1, none⟩ (.int .i64 (d + net + tax))).alloc (.cells #[.int .i64 a0.o, .int .i64 a0.c, .int .i64 1, .int .i64 a0.lv, .int .i64 net, .int .i64 tax, .int .i64 a0.ap, .int .i64 a0.wr, .int .i64 a0.dep] 47)) := ((Touch.of_below hb1).then (Touch.setCell w1 R 1 (.int .i64 (d + net + tax)))).alloc _
          have h3 := H.out.1.turn hT0 (fun k hk => .inl hk) hB3
          have HNX := hid (inv_next (c := c) (d := d) (net := net) (tax := tax) HFA.out.1 HSS.out HOK.out.2.1 HOK.out.2.2)
          have hbo : (invB a0 net tax).o = o := HFA.out.2.1
          have K := hid (rapply_any h3 H.out.2.1 (invB a0 net tax) hl (Nat.le_trans H.out.2.2 hT0.size) ⟨⟨by simp only [invB]; omega, by simp only [invB]; omega⟩, ⟨by simp only [invB]; omega, by simp only [invB]; omega⟩, HFA.out.1.small.p, HFA.out.1.small.w⟩ HNX.out.2.1.fit.small ⟨by have := HFA.out.1.d0; simp only [invB]; omega, by have := HFA.out.1.d1; simp only [invB]; omega⟩ ⟨by have z := HFA.out.1.zero HSS.out; simp only [openC, invB, ↓reduceIte]; omega, by have z := HFA.out.1.zero HSS.out; simp only [openC, invB, ↓reduceIte]; omega⟩ ⟨by have := HG.out.d0; omega, by have := HG.out.d1; omega⟩)
          rw [hbo] at K
          have HT0 := hid hT0
          clear hB3 h3 hT0 hbo hb1 h1 w0 w00 c1 lR fR
          generalize (w1.setCell ⟨R, 1, none⟩ (.int .i64 (d + net + tax))).alloc (.cells #[.int .i64 a0.o, .int .i64 a0.c, .int .i64 1, .int .i64 a0.lv, .int .i64 net, .int .i64 tax, .int .i64 a0.ap, .int .i64 a0.wr, .int .i64 a0.dep] 47) = w3 at K HT0 ⊢
          simp only [celC] at K
          refine K.out.mono ?_
          rintro e w5 ⟨rfl, hP⟩
          have HP := hid (PostR.after HT0.out hP)
          clear K hP
          go_wp2_with fail
          go_ret2
          have hp := HP.out
          rw [show d + net + tax = d + (net + tax) from by omega] at hp
          exact ⟨rfl, hp⟩
      · rw [if_pos (fun e => hs e)]
        have ts : (a0.st != 0) = true := by simpa using hs
        clear hs hc
        simp only [celC] at O
        go_enter Tryz.func66, Tryz.ntmps66
        go_wp2_with fail
        refine O.out.mono ?_
        rintro e w1 ⟨rfl, hb1⟩
        obtain ⟨hr2, hb2⟩ := W.out w1 hb1
        have hG2 := Blk.new w1 47 #[.int .i64 a0.o, .int .i64 a0.c, .int .i64 a0.st, .int .i64 a0.lv, .int .i64 a0.net, .int .i64 a0.tax, .int .i64 a0.ap, .int .i64 a0.wr, .int .i64 a0.dep]
        obtain ⟨w2, hw2⟩ : ∃ w2, w2 = w1.alloc (.cells #[.int .i64 a0.o, .int .i64 a0.c, .int .i64 a0.st, .int .i64 a0.lv, .int .i64 a0.net, .int .i64 a0.tax, .int .i64 a0.ap, .int .i64 a0.wr, .int .i64 a0.dep] 47) := ⟨_, rfl⟩
        obtain ⟨G1, hG1⟩ : ∃ G1, G1 = w1.heap.size := ⟨_, rfl⟩
        have hGR : G1 ≠ R := by have := (H.out.1.next hb1).blk.lt; omega
        have hGw : w.heap.size ≤ G1 := by rw [hG1]; exact hb1.size
        have c1 : w1.cell? ⟨R, 1, none⟩ = some (.int .i64 d) := (H.out.1.next hb1).blk.cell 1
        have lR : R < w1.heap.size := (H.out.1.next hb1).blk.lt
        have fR := (H.out.1.next hb1).blk.free 1
        rw [← hw2] at hr2 hb2 hG2
        rw [← hG1] at hG2
        have HW2 := hid hw2
        have HG1 := hid hG1
        have HB1 := hid hb1
        have H2 := hid (And.intro hr2 (And.intro hb2 hG2))
        clear hr2 hb2 hG2 hw2 hG1 hb1 W O
        go_wp2_with fail
        go_ret2
        rw [← HW2.out]
        exact ⟨rfl, PostR.same H.out.1 H.out.2.1 o H2.out.2.1⟩
    · rw [if_pos (fun e => hc e)]
      have tc : (a0.c != c) = true := by simpa using hc
      clear hc
      simp only [celC] at O
      go_enter Tryz.func66, Tryz.ntmps66
      go_wp2_with fail
      refine O.out.mono ?_
      rintro e w1 ⟨rfl, hb1⟩
      obtain ⟨hr2, hb2⟩ := W.out w1 hb1
      have hG2 := Blk.new w1 47 #[.int .i64 a0.o, .int .i64 a0.c, .int .i64 a0.st, .int .i64 a0.lv, .int .i64 a0.net, .int .i64 a0.tax, .int .i64 a0.ap, .int .i64 a0.wr, .int .i64 a0.dep]
      obtain ⟨w2, hw2⟩ : ∃ w2, w2 = w1.alloc (.cells #[.int .i64 a0.o, .int .i64 a0.c, .int .i64 a0.st, .int .i64 a0.lv, .int .i64 a0.net, .int .i64 a0.tax, .int .i64 a0.ap, .int .i64 a0.wr, .int .i64 a0.dep] 47) := ⟨_, rfl⟩
      obtain ⟨G1, hG1⟩ : ∃ G1, G1 = w1.heap.size := ⟨_, rfl⟩
      have hGR : G1 ≠ R := by have := (H.out.1.next hb1).blk.lt; omega
      have hGw : w.heap.size ≤ G1 := by rw [hG1]; exact hb1.size
      have c1 : w1.cell? ⟨R, 1, none⟩ = some (.int .i64 d) := (H.out.1.next hb1).blk.cell 1
      have lR : R < w1.heap.size := (H.out.1.next hb1).blk.lt
      have fR := (H.out.1.next hb1).blk.free 1
      rw [← hw2] at hr2 hb2 hG2
      rw [← hG1] at hG2
      have HW2 := hid hw2
      have HG1 := hid hG1
      have HB1 := hid hb1
      have H2 := hid (And.intro hr2 (And.intro hb2 hG2))
      clear hr2 hb2 hG2 hw2 hG1 hb1 W O
      go_wp2_with fail
      go_ret2
      rw [← HW2.out]
      exact ⟨rfl, PostR.same H.out.1 H.out.2.1 o H2.out.2.1⟩
  · have e : invR F d o c net tax = noC 2 d := by unfold invR; rw [if_neg hok]
    rw [e]
    have HH := hid (PostR.same h hF o (Below.refl _ _))
    unfold okInv at hok
    clear h hF hg hl hbw e
    rcases (show (o < 1) ∨ ((1 ≤ o) ∧ c < 1) ∨ ((1 ≤ o) ∧ (1 ≤ c) ∧ 64 < c) ∨ ((1 ≤ o) ∧ (1 ≤ c) ∧ (c ≤ 64) ∧ net < 0) ∨ ((1 ≤ o) ∧ (1 ≤ c) ∧ (c ≤ 64) ∧ (0 ≤ net) ∧ 281474976710656 < net) ∨ ((1 ≤ o) ∧ (1 ≤ c) ∧ (c ≤ 64) ∧ (0 ≤ net) ∧ (net ≤ 281474976710656) ∧ tax < 0) ∨ ((1 ≤ o) ∧ (1 ≤ c) ∧ (c ≤ 64) ∧ (0 ≤ net) ∧ (net ≤ 281474976710656) ∧ (0 ≤ tax) ∧ 281474976710656 < tax) from by omega) with j0 | ⟨j0, j1⟩ | ⟨j0, j1, j2⟩ | ⟨j0, j1, j2, j3⟩ | ⟨j0, j1, j2, j3, j4⟩ | ⟨j0, j1, j2, j3, j4, j5⟩ | ⟨j0, j1, j2, j3, j4, j5, j6⟩
    · have t0 : decide (o < 1) = true := decide_eq_true (by omega)
      clear hok
      go_enter Tryz.func66, Tryz.ntmps66
      go_wp2_with fail
      go_ret2
      exact ⟨rfl, HH.out⟩
    · have t0 : decide (o < 1) = false := decide_eq_false (by omega)
      have t1 : decide (c < 1) = true := decide_eq_true (by omega)
      clear hok
      go_enter Tryz.func66, Tryz.ntmps66
      go_wp2_with fail
      go_ret2
      exact ⟨rfl, HH.out⟩
    · have t0 : decide (o < 1) = false := decide_eq_false (by omega)
      have t1 : decide (c < 1) = false := decide_eq_false (by omega)
      have t2 : decide (64 < c) = true := decide_eq_true (by omega)
      clear hok
      go_enter Tryz.func66, Tryz.ntmps66
      go_wp2_with fail
      go_ret2
      exact ⟨rfl, HH.out⟩
    · have t0 : decide (o < 1) = false := decide_eq_false (by omega)
      have t1 : decide (c < 1) = false := decide_eq_false (by omega)
      have t2 : decide (64 < c) = false := decide_eq_false (by omega)
      have t3 : decide (net < 0) = true := decide_eq_true (by omega)
      clear hok
      go_enter Tryz.func66, Tryz.ntmps66
      go_wp2_with fail
      go_ret2
      exact ⟨rfl, HH.out⟩
    · have t0 : decide (o < 1) = false := decide_eq_false (by omega)
      have t1 : decide (c < 1) = false := decide_eq_false (by omega)
      have t2 : decide (64 < c) = false := decide_eq_false (by omega)
      have t3 : decide (net < 0) = false := decide_eq_false (by omega)
      have t4 : decide (281474976710656 < net) = true := decide_eq_true (by omega)
      clear hok
      go_enter Tryz.func66, Tryz.ntmps66
      go_wp2_with fail
      go_ret2
      exact ⟨rfl, HH.out⟩
    · have t0 : decide (o < 1) = false := decide_eq_false (by omega)
      have t1 : decide (c < 1) = false := decide_eq_false (by omega)
      have t2 : decide (64 < c) = false := decide_eq_false (by omega)
      have t3 : decide (net < 0) = false := decide_eq_false (by omega)
      have t4 : decide (281474976710656 < net) = false := decide_eq_false (by omega)
      have t5 : decide (tax < 0) = true := decide_eq_true (by omega)
      clear hok
      go_enter Tryz.func66, Tryz.ntmps66
      go_wp2_with fail
      go_ret2
      exact ⟨rfl, HH.out⟩
    · have t0 : decide (o < 1) = false := decide_eq_false (by omega)
      have t1 : decide (c < 1) = false := decide_eq_false (by omega)
      have t2 : decide (64 < c) = false := decide_eq_false (by omega)
      have t3 : decide (net < 0) = false := decide_eq_false (by omega)
      have t4 : decide (281474976710656 < net) = false := decide_eq_false (by omega)
      have t5 : decide (tax < 0) = false := decide_eq_false (by omega)
      have t6 : decide (281474976710656 < tax) = true := decide_eq_true (by omega)
      clear hok
      go_enter Tryz.func66, Tryz.ntmps66
      go_wp2_with fail
      go_ret2
      exact ⟨rfl, HH.out⟩

set_option maxRecDepth 100000 in
set_option maxHeartbeats 16000000 in
theorem rrcv_any (h : IsRf base w R A cap L d) (hF : RelC F L) (hg : GoodF F d) (hl : L.length * 72 + 72 ≤ 140737488355328) (hbw : base ≤ w.heap.size) (o c n : Int) :
    Calls Tryz.prog 67 #[.pointer (some ⟨R, 0, none⟩), .int .i64 o, .int .i64 c, .int .i64 n] w fun e w' => e = .returned (.tuple #[.bool (rcvR F d o c n).paid, .int .i64 (rcvR F d o c n).code]) ∧ PostR base R A L F o (rcvR F d o c n).acc (rcvR F d o c n).d w w' := by
  by_cases hok : okRcv o c n
  · unfold rcvR
    rw [if_pos hok]
    have O := hid (rof_any h hF o c (by omega))
    have hfa := hg.fit o c hok.1.1 hok.1.2
    obtain ⟨a0, ha0⟩ : ∃ a0, a0 = acOf F o c := ⟨_, rfl⟩
    rw [← ha0] at hfa O ⊢
    have H := hid (And.intro h (And.intro hF hbw))
    have HG := hid hg
    have HOK := hid hok
    have HFA := hid hfa
    obtain ⟨k1, k2⟩ := hok
    obtain ⟨k10, k11, k12⟩ := k1
    obtain ⟨k3, k4⟩ := k2
    have t0 : decide (o < 1) = false := decide_eq_false (by omega)
    have t1 : decide (c < 1) = false := decide_eq_false (by omega)
    have t2 : decide (64 < c) = false := decide_eq_false (by omega)
    have t3 : decide (n < 1) = false := decide_eq_false (by omega)
    have t4 : decide (281474976710656 < n) = false := decide_eq_false (by omega)
    clear h hF hg hfa hbw ha0
    have W : Hid (∀ w1 : World, Below w.heap.size w w1 → IsRf base (w1.alloc (.cells #[.int .i64 a0.o, .int .i64 a0.c, .int .i64 a0.st, .int .i64 a0.lv, .int .i64 a0.net, .int .i64 a0.tax, .int .i64 a0.ap, .int .i64 a0.wr, .int .i64 a0.dep] 47)) R A cap L d ∧ Below w.heap.size w (w1.alloc (.cells #[.int .i64 a0.o, .int .i64 a0.c, .int .i64 a0.st, .int .i64 a0.lv, .int .i64 a0.net, .int .i64 a0.tax, .int .i64 a0.ap, .int .i64 a0.wr, .int .i64 a0.dep] 47))) := hid (fun w1 hb => ⟨(H.out.1.next hb).alloc _, hb.alloc hb.size _⟩)
    by_cases hc : a0.c = c
    · rw [if_neg (fun e => e hc)]
      have tc : (a0.c != c) = false := by simp [hc]
      have HC := hid hc
      clear hc
      have w0 : IntKind.i64.wrap (d + n) = d + n := IntWalk.i64_in _ ⟨by have := HG.out.d0; omega, by have := HG.out.d1; omega⟩
      by_cases hr : 576460752303423488 - (n) < d
      · rw [if_pos hr]
        have tr : decide (576460752303423488 < d + n) = true := decide_eq_true (by omega)
        clear hr
        simp only [celC] at O
        go_enter Tryz.func67, Tryz.ntmps67
        go_wp2_with fail
        refine O.out.mono ?_
        rintro e w1 ⟨rfl, hb1⟩
        obtain ⟨hr2, hb2⟩ := W.out w1 hb1
        have hG2 := Blk.new w1 47 #[.int .i64 a0.o, .int .i64 a0.c, .int .i64 a0.st, .int .i64 a0.lv, .int .i64 a0.net, .int .i64 a0.tax, .int .i64 a0.ap, .int .i64 a0.wr, .int .i64 a0.dep]
        obtain ⟨w2, hw2⟩ : ∃ w2, w2 = w1.alloc (.cells #[.int .i64 a0.o, .int .i64 a0.c, .int .i64 a0.st, .int .i64 a0.lv, .int .i64 a0.net, .int .i64 a0.tax, .int .i64 a0.ap, .int .i64 a0.wr, .int .i64 a0.dep] 47) := ⟨_, rfl⟩
        obtain ⟨G1, hG1⟩ : ∃ G1, G1 = w1.heap.size := ⟨_, rfl⟩
        have hGR : G1 ≠ R := by have := (H.out.1.next hb1).blk.lt; omega
        have hGw : w.heap.size ≤ G1 := by rw [hG1]; exact hb1.size
        have c1 : w1.cell? ⟨R, 1, none⟩ = some (.int .i64 d) := (H.out.1.next hb1).blk.cell 1
        have lR : R < w1.heap.size := (H.out.1.next hb1).blk.lt
        have fR := (H.out.1.next hb1).blk.free 1
        rw [← hw2] at hr2 hb2 hG2
        rw [← hG1] at hG2
        have HW2 := hid hw2
        have HG1 := hid hG1
        have HB1 := hid hb1
        have H2 := hid (And.intro hr2 (And.intro hb2 hG2))
        clear hr2 hb2 hG2 hw2 hG1 hb1 W O
        go_wp2_with fail
        go_ret2
        rw [← HW2.out]
        exact ⟨rfl, PostR.same H.out.1 H.out.2.1 o H2.out.2.1⟩
      · rw [if_neg hr]
        have tr : decide (576460752303423488 < d + n) = false := decide_eq_false (by omega)
        have HR := hid hr
        clear hr
        simp only [celC] at O
        go_enter Tryz.func67, Tryz.ntmps67
        go_wp2_with fail
        refine O.out.mono ?_
        rintro e w1 ⟨rfl, hb1⟩
        obtain ⟨hr2, hb2⟩ := W.out w1 hb1
        have hG2 := Blk.new w1 47 #[.int .i64 a0.o, .int .i64 a0.c, .int .i64 a0.st, .int .i64 a0.lv, .int .i64 a0.net, .int .i64 a0.tax, .int .i64 a0.ap, .int .i64 a0.wr, .int .i64 a0.dep]
        obtain ⟨w2, hw2⟩ : ∃ w2, w2 = w1.alloc (.cells #[.int .i64 a0.o, .int .i64 a0.c, .int .i64 a0.st, .int .i64 a0.lv, .int .i64 a0.net, .int .i64 a0.tax, .int .i64 a0.ap, .int .i64 a0.wr, .int .i64 a0.dep] 47) := ⟨_, rfl⟩
        obtain ⟨G1, hG1⟩ : ∃ G1, G1 = w1.heap.size := ⟨_, rfl⟩
        have hGR : G1 ≠ R := by have := (H.out.1.next hb1).blk.lt; omega
        have hGw : w.heap.size ≤ G1 := by rw [hG1]; exact hb1.size
        have c1 : w1.cell? ⟨R, 1, none⟩ = some (.int .i64 d) := (H.out.1.next hb1).blk.cell 1
        have lR : R < w1.heap.size := (H.out.1.next hb1).blk.lt
        have fR := (H.out.1.next hb1).blk.free 1
        rw [← hw2] at hr2 hb2 hG2
        rw [← hG1] at hG2
        have HW2 := hid hw2
        have HG1 := hid hG1
        have HB1 := hid hb1
        have H2 := hid (And.intro hr2 (And.intro hb2 hG2))
        clear hr2 hb2 hG2 hw2 hG1 hb1 W O
        have e0 : w2.cell? ⟨G1, 0, none⟩ = some (.int .i64 a0.o) := H2.out.2.2.cell 0
        have e1 : w2.cell? ⟨G1, 1, none⟩ = some (.int .i64 a0.c) := H2.out.2.2.cell 1
        have e2 : w2.cell? ⟨G1, 2, none⟩ = some (.int .i64 a0.st) := H2.out.2.2.cell 2
        have e3 : w2.cell? ⟨G1, 3, none⟩ = some (.int .i64 a0.lv) := H2.out.2.2.cell 3
        have e4 : w2.cell? ⟨G1, 4, none⟩ = some (.int .i64 a0.net) := H2.out.2.2.cell 4
        have e5 : w2.cell? ⟨G1, 5, none⟩ = some (.int .i64 a0.tax) := H2.out.2.2.cell 5
        have e6 : w2.cell? ⟨G1, 6, none⟩ = some (.int .i64 a0.ap) := H2.out.2.2.cell 6
        have e7 : w2.cell? ⟨G1, 7, none⟩ = some (.int .i64 a0.wr) := H2.out.2.2.cell 7
        have e8 : w2.cell? ⟨G1, 8, none⟩ = some (.int .i64 a0.dep) := H2.out.2.2.cell 8
        have lG1 : G1 < w2.heap.size := H2.out.2.2.lt
        have c2 : w2.cell? ⟨R, 1, none⟩ = some (.int .i64 d) := H2.out.1.blk.cell 1
        have fR2 := H2.out.1.blk.free 1
        have lR2 : R < w2.heap.size := H2.out.1.blk.lt
        have f8 := H2.out.2.2.free 8
        have wd : IntKind.i64.wrap (a0.dep + n) = a0.dep + n := IntWalk.i64_in _ ⟨by have := HFA.out.1.d0; omega, by have := HFA.out.1.d1; omega⟩
        go_wp2_with fail
        clear e0 e1 e2 e3 e4 e5 e6 e7 e8 lG1 c2 fR2 lR2 f8 wd
        have hb1 := HB1.out
        have h1 := H.out.1.next hb1
        have hB3 := (h1.blk.set_ 1 (.int .i64 (d + n))).alloc (.cells #[.int .i64 a0.o, .int .i64 a0.c, .int .i64 a0.st, .int .i64 a0.lv, .int .i64 a0.net, .int .i64 a0.tax, .int .i64 a0.ap, .int .i64 a0.wr, .int .i64 (a0.dep + n)] 47)
        have hT0 : Touch (· = R) w ((w1.setCell ⟨R, 1, none⟩ (.int .i64 (d + n))).alloc (.cells #[.int .i64 a0.o, .int .i64 a0.c, .int .i64 a0.st, .int .i64 a0.lv, .int .i64 a0.net, .int .i64 a0.tax, .int .i64 a0.ap, .int .i64 a0.wr, .int .i64 (a0.dep + n)] 47)) := ((Touch.of_below hb1).then (Touch.setCell w1 R 1 (.int .i64 (d + n)))).alloc _
        have h3 := H.out.1.turn hT0 (fun k hk => .inl hk) hB3
        have HNX := hid (rcv_next (c := c) (d := d) (n := n) HFA.out.1 (by omega) (by have := HFA.out.2.2; have := HFA.out.1.wt0; have := HR.out; omega))
        have hbo : (rcvB a0 n).o = o := HFA.out.2.1
        have K := hid (rapply_any h3 H.out.2.1 (rcvB a0 n) hl (Nat.le_trans H.out.2.2 hT0.size) ⟨HFA.out.1.small.n, HFA.out.1.small.t, HFA.out.1.small.p, HFA.out.1.small.w⟩ HNX.out.2.1.fit.small ⟨by have := HFA.out.1.d0; simp only [rcvB]; omega, by have := HFA.out.1.d1; simp only [rcvB]; omega⟩ ⟨by have := HFA.out.1.open0; simp only [openC, rcvB] at *; omega, by have := HFA.out.1.open0; simp only [openC, rcvB] at *; omega⟩ ⟨by have := HG.out.d0; omega, by have := HG.out.d1; omega⟩)
        rw [hbo] at K
        have HT0 := hid hT0
        clear hB3 h3 hT0 hbo hb1 h1 w0  c1 lR fR
        generalize (w1.setCell ⟨R, 1, none⟩ (.int .i64 (d + n))).alloc (.cells #[.int .i64 a0.o, .int .i64 a0.c, .int .i64 a0.st, .int .i64 a0.lv, .int .i64 a0.net, .int .i64 a0.tax, .int .i64 a0.ap, .int .i64 a0.wr, .int .i64 (a0.dep + n)] 47) = w3 at K HT0 ⊢
        simp only [celC] at K
        refine K.out.mono ?_
        rintro e w5 ⟨rfl, hP⟩
        have HP := hid (PostR.after HT0.out hP)
        clear K hP
        go_wp2_with fail
        go_ret2
        have hp := HP.out
        rw [show d + n = d + n from rfl] at hp
        exact ⟨rfl, hp⟩
    · rw [if_pos (fun e => hc e)]
      have tc : (a0.c != c) = true := by simpa using hc
      clear hc
      simp only [celC] at O
      go_enter Tryz.func67, Tryz.ntmps67
      go_wp2_with fail
      refine O.out.mono ?_
      rintro e w1 ⟨rfl, hb1⟩
      obtain ⟨hr2, hb2⟩ := W.out w1 hb1
      have hG2 := Blk.new w1 47 #[.int .i64 a0.o, .int .i64 a0.c, .int .i64 a0.st, .int .i64 a0.lv, .int .i64 a0.net, .int .i64 a0.tax, .int .i64 a0.ap, .int .i64 a0.wr, .int .i64 a0.dep]
      obtain ⟨w2, hw2⟩ : ∃ w2, w2 = w1.alloc (.cells #[.int .i64 a0.o, .int .i64 a0.c, .int .i64 a0.st, .int .i64 a0.lv, .int .i64 a0.net, .int .i64 a0.tax, .int .i64 a0.ap, .int .i64 a0.wr, .int .i64 a0.dep] 47) := ⟨_, rfl⟩
      obtain ⟨G1, hG1⟩ : ∃ G1, G1 = w1.heap.size := ⟨_, rfl⟩
      have hGR : G1 ≠ R := by have := (H.out.1.next hb1).blk.lt; omega
      have hGw : w.heap.size ≤ G1 := by rw [hG1]; exact hb1.size
      have c1 : w1.cell? ⟨R, 1, none⟩ = some (.int .i64 d) := (H.out.1.next hb1).blk.cell 1
      have lR : R < w1.heap.size := (H.out.1.next hb1).blk.lt
      have fR := (H.out.1.next hb1).blk.free 1
      rw [← hw2] at hr2 hb2 hG2
      rw [← hG1] at hG2
      have HW2 := hid hw2
      have HG1 := hid hG1
      have HB1 := hid hb1
      have H2 := hid (And.intro hr2 (And.intro hb2 hG2))
      clear hr2 hb2 hG2 hw2 hG1 hb1 W O
      go_wp2_with fail
      go_ret2
      rw [← HW2.out]
      exact ⟨rfl, PostR.same H.out.1 H.out.2.1 o H2.out.2.1⟩
  · have e : rcvR F d o c n = noC 2 d := by unfold rcvR; rw [if_neg hok]
    rw [e]
    have HH := hid (PostR.same h hF o (Below.refl _ _))
    unfold okRcv at hok
    clear h hF hg hl hbw e
    rcases (show (o < 1) ∨ ((1 ≤ o) ∧ c < 1) ∨ ((1 ≤ o) ∧ (1 ≤ c) ∧ 64 < c) ∨ ((1 ≤ o) ∧ (1 ≤ c) ∧ (c ≤ 64) ∧ n < 1) ∨ ((1 ≤ o) ∧ (1 ≤ c) ∧ (c ≤ 64) ∧ (1 ≤ n) ∧ 281474976710656 < n) from by omega) with j0 | ⟨j0, j1⟩ | ⟨j0, j1, j2⟩ | ⟨j0, j1, j2, j3⟩ | ⟨j0, j1, j2, j3, j4⟩
    · have t0 : decide (o < 1) = true := decide_eq_true (by omega)
      clear hok
      go_enter Tryz.func67, Tryz.ntmps67
      go_wp2_with fail
      go_ret2
      exact ⟨rfl, HH.out⟩
    · have t0 : decide (o < 1) = false := decide_eq_false (by omega)
      have t1 : decide (c < 1) = true := decide_eq_true (by omega)
      clear hok
      go_enter Tryz.func67, Tryz.ntmps67
      go_wp2_with fail
      go_ret2
      exact ⟨rfl, HH.out⟩
    · have t0 : decide (o < 1) = false := decide_eq_false (by omega)
      have t1 : decide (c < 1) = false := decide_eq_false (by omega)
      have t2 : decide (64 < c) = true := decide_eq_true (by omega)
      clear hok
      go_enter Tryz.func67, Tryz.ntmps67
      go_wp2_with fail
      go_ret2
      exact ⟨rfl, HH.out⟩
    · have t0 : decide (o < 1) = false := decide_eq_false (by omega)
      have t1 : decide (c < 1) = false := decide_eq_false (by omega)
      have t2 : decide (64 < c) = false := decide_eq_false (by omega)
      have t3 : decide (n < 1) = true := decide_eq_true (by omega)
      clear hok
      go_enter Tryz.func67, Tryz.ntmps67
      go_wp2_with fail
      go_ret2
      exact ⟨rfl, HH.out⟩
    · have t0 : decide (o < 1) = false := decide_eq_false (by omega)
      have t1 : decide (c < 1) = false := decide_eq_false (by omega)
      have t2 : decide (64 < c) = false := decide_eq_false (by omega)
      have t3 : decide (n < 1) = false := decide_eq_false (by omega)
      have t4 : decide (281474976710656 < n) = true := decide_eq_true (by omega)
      clear hok
      go_enter Tryz.func67, Tryz.ntmps67
      go_wp2_with fail
      go_ret2
      exact ⟨rfl, HH.out⟩
end

end Go.Proofs.YthdmbbfppgenlaaGreat

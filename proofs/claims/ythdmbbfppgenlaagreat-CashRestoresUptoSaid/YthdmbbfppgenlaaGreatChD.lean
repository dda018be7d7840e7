/-
  The document's book of money: fit and Restore (printed by gen_chd.py).
-/
import Derived.Test.YthdmbbfppgenlaaGreatChN
import Derived.Deep.RegionLaw
namespace Go.Proofs.YthdmbbfppgenlaaGreat
open Go.RowKit Go.Maps Go.Sort Go.ChangeShapes Go.WideShapes Go.ChangeAt Go.Deep
set_option linter.unusedVariables false

set_option maxRecDepth 100000 in
set_option maxHeartbeats 16000000 in
theorem rfitA_any (a : Ca) (w : World) : Calls Tryz.prog 48 #[.agg (celC a)] w fun e w' => e = .returned (.bool (fitA a)) ∧ Below w.heap.size w w' := by
  obtain ⟨xo, xc, xst, xlv, xnet, xtax, xap, xwr, xdep⟩ := a
  simp only [celC]
  have hG := Blk.new w 47 #[.int .i64 xo, .int .i64 xc, .int .i64 xst, .int .i64 xlv, .int .i64 xnet, .int .i64 xtax, .int .i64 xap, .int .i64 xwr, .int .i64 xdep]
  have hwz : Below w.heap.size w (w.alloc (.cells #[.int .i64 xo, .int .i64 xc, .int .i64 xst, .int .i64 xlv, .int .i64 xnet, .int .i64 xtax, .int .i64 xap, .int .i64 xwr, .int .i64 xdep] 47)) := (Below.refl _ _).alloc (Nat.le_refl _) _
  obtain ⟨wz, hW⟩ : ∃ wz, wz = w.alloc (.cells #[.int .i64 xo, .int .i64 xc, .int .i64 xst, .int .i64 xlv, .int .i64 xnet, .int .i64 xtax, .int .i64 xap, .int .i64 xwr, .int .i64 xdep] 47) := ⟨_, rfl⟩
  obtain ⟨G, hGe⟩ : ∃ G, G = w.heap.size := ⟨_, rfl⟩
  rw [← hW] at hG hwz
  rw [← hGe] at hG
  have HW := hid hW
  have HGE := hid hGe
  clear hW hGe
  have g0 : wz.cell? ⟨G, 0, none⟩ = some (.int .i64 xo) := hG.cell 0
  have g1 : wz.cell? ⟨G, 1, none⟩ = some (.int .i64 xc) := hG.cell 1
  have g2 : wz.cell? ⟨G, 2, none⟩ = some (.int .i64 xst) := hG.cell 2
  have g3 : wz.cell? ⟨G, 3, none⟩ = some (.int .i64 xlv) := hG.cell 3
  have g4 : wz.cell? ⟨G, 4, none⟩ = some (.int .i64 xnet) := hG.cell 4
  have g5 : wz.cell? ⟨G, 5, none⟩ = some (.int .i64 xtax) := hG.cell 5
  have g6 : wz.cell? ⟨G, 6, none⟩ = some (.int .i64 xap) := hG.cell 6
  have g7 : wz.cell? ⟨G, 7, none⟩ = some (.int .i64 xwr) := hG.cell 7
  have g8 : wz.cell? ⟨G, 8, none⟩ = some (.int .i64 xdep) := hG.cell 8
  have lG := hG.lt
  have HG := hid (And.intro hG hwz)
  clear hG hwz
  go_enter Tryz.func48, Tryz.ntmps48
  go_upto_region 1 with fail
  rw [← HW.out, ← HGE.out]
  clear HW HGE
  go_cut [37] (fun v wx => v = .bool (decide (xo < 1) || decide (xc < 1) || decide (64 < xc) || decide (xst < 0) || decide (2 < xst) || decide (xlv < 0) || decide (3 < xlv)) ∧ wx = wz)
  case first =>
    by_cases h1 : xo < 1
    · have u1 : decide (xo < 1) = true := decide_eq_true h1
      have HV := hid (show (decide (xo < 1) || decide (xc < 1) || decide (64 < xc) || decide (xst < 0) || decide (2 < xst) || decide (xlv < 0) || decide (3 < xlv)) = true from by simp [u1])
      clear h1
      go_wp2_with fail
      go_meet
      exact ⟨by rw [HV.out], rfl⟩
    · have u1 : decide (xo < 1) = false := decide_eq_false h1
      by_cases h2 : xc < 1
      · have u2 : decide (xc < 1) = true := decide_eq_true h2
        have HV := hid (show (decide (xo < 1) || decide (xc < 1) || decide (64 < xc) || decide (xst < 0) || decide (2 < xst) || decide (xlv < 0) || decide (3 < xlv)) = true from by simp [u1, u2])
        clear h1 h2
        go_wp2_with fail
        go_meet
        exact ⟨by rw [HV.out], rfl⟩
      · have u2 : decide (xc < 1) = false := decide_eq_false h2
        by_cases h3 : 64 < xc
        · have u3 : decide (64 < xc) = true := decide_eq_true h3
          have HV := hid (show (decide (xo < 1) || decide (xc < 1) || decide (64 < xc) || decide (xst < 0) || decide (2 < xst) || decide (xlv < 0) || decide (3 < xlv)) = true from by simp [u1, u2, u3])
          clear h1 h2 h3
          go_wp2_with fail
          go_meet
          exact ⟨by rw [HV.out], rfl⟩
        · have u3 : decide (64 < xc) = false := decide_eq_false h3
          by_cases h4 : xst < 0
          · have u4 : decide (xst < 0) = true := decide_eq_true h4
            have HV := hid (show (decide (xo < 1) || decide (xc < 1) || decide (64 < xc) || decide (xst < 0) || decide (2 < xst) || decide (xlv < 0) || decide (3 < xlv)) = true from by simp [u1, u2, u3, u4])
            clear h1 h2 h3 h4
            go_wp2_with fail
            go_meet
            exact ⟨by rw [HV.out], rfl⟩
          · have u4 : decide (xst < 0) = false := decide_eq_false h4
            by_cases h5 : 2 < xst
            · have u5 : decide (2 < xst) = true := decide_eq_true h5
              have HV := hid (show (decide (xo < 1) || decide (xc < 1) || decide (64 < xc) || decide (xst < 0) || decide (2 < xst) || decide (xlv < 0) || decide (3 < xlv)) = true from by simp [u1, u2, u3, u4, u5])
              clear h1 h2 h3 h4 h5
              go_wp2_with fail
              go_meet
              exact ⟨by rw [HV.out], rfl⟩
            · have u5 : decide (2 < xst) = false := decide_eq_false h5
              by_cases h6 : xlv < 0
              · have u6 : decide (xlv < 0) = true := decide_eq_true h6
                have HV := hid (show (decide (xo < 1) || decide (xc < 1) || decide (64 < xc) || decide (xst < 0) || decide (2 < xst) || decide (xlv < 0) || decide (3 < xlv)) = true from by simp [u1, u2, u3, u4, u5, u6])
                clear h1 h2 h3 h4 h5 h6
                go_wp2_with fail
                go_meet
                exact ⟨by rw [HV.out], rfl⟩
              · have u6 : decide (xlv < 0) = false := decide_eq_false h6
                by_cases h7 : 3 < xlv
                · have u7 : decide (3 < xlv) = true := decide_eq_true h7
                  have HV := hid (show (decide (xo < 1) || decide (xc < 1) || decide (64 < xc) || decide (xst < 0) || decide (2 < xst) || decide (xlv < 0) || decide (3 < xlv)) = true from by simp [u1, u2, u3, u4, u5, u6, u7])
                  clear h1 h2 h3 h4 h5 h6 h7
                  go_wp2_with fail
                  go_meet
                  exact ⟨by rw [HV.out], rfl⟩
                · have u7 : decide (3 < xlv) = false := decide_eq_false h7
                  have HV := hid (show (decide (xo < 1) || decide (xc < 1) || decide (64 < xc) || decide (xst < 0) || decide (2 < xst) || decide (xlv < 0) || decide (3 < xlv)) = false from by simp [u1, u2, u3, u4, u5, u6, u7])
                  clear h1 h2 h3 h4 h5 h6 h7
                  go_wp2_with fail
                  go_meet
                  exact ⟨by rw [HV.out], rfl⟩
  case rest =>
    obtain ⟨rfl, hwx⟩ := hcut
    rw [hwx]
    clear hwx
    cases hB : (decide (xo < 1) || decide (xc < 1) || decide (64 < xc) || decide (xst < 0) || decide (2 < xst) || decide (xlv < 0) || decide (3 < xlv)) with
    | true =>
      have HNO := hid (show fitA (⟨xo, xc, xst, xlv, xnet, xtax, xap, xwr, xdep⟩ : Ca) = false from by
        cases hf : fitA (⟨xo, xc, xst, xlv, xnet, xtax, xap, xwr, xdep⟩ : Ca) with
        | false => rfl
        | true =>
          have h := (fitA_iff _).1 hf
          have k1 : 1 ≤ xo ∧ 1 ≤ xc ∧ xc ≤ 64 ∧ 0 ≤ xst ∧ xst ≤ 2 ∧ 0 ≤ xlv ∧ xlv ≤ 3 := ⟨h.o1, h.c1, h.c2, h.s0, h.s2, h.l0, h.l3⟩
          have k2 : 0 ≤ xnet ∧ xnet ≤ 281474976710656 ∧ 0 ≤ xtax ∧ xtax ≤ 281474976710656 := ⟨h.n0, h.n1, h.t0, h.t1⟩
          have k3 : 0 ≤ xap ∧ xap ≤ xnet + xtax ∧ 0 ≤ xwr ∧ xwr ≤ xnet + xtax - xap ∧ 0 ≤ xdep ∧ xdep ≤ 576460752303423488 := ⟨h.p0, h.p1, h.w0, h.w1, h.d0, h.d1⟩
          simp only [Bool.or_eq_true, decide_eq_true_eq] at hB
          omega)
      clear hB
      go_wp2_with fail
      go_ret
      exact ⟨by rw [HNO.out]; rfl, HG.out.2⟩
    | false =>
      have HB1 := hid hB
      clear hB
      go_upto_region 3 with fail
      go_cut [55] (fun v wx => v = .bool (decide (xnet < 0) || decide (281474976710656 < xnet) || decide (xtax < 0) || decide (281474976710656 < xtax)) ∧ wx = wz)
      case first =>
        by_cases h1 : xnet < 0
        · have u1 : decide (xnet < 0) = true := decide_eq_true h1
          have HV := hid (show (decide (xnet < 0) || decide (281474976710656 < xnet) || decide (xtax < 0) || decide (281474976710656 < xtax)) = true from by simp [u1])
          clear h1
          go_wp2_with fail
          go_meet
          exact ⟨by rw [HV.out], rfl⟩
        · have u1 : decide (xnet < 0) = false := decide_eq_false h1
          by_cases h2 : 281474976710656 < xnet
          · have u2 : decide (281474976710656 < xnet) = true := decide_eq_true h2
            have HV := hid (show (decide (xnet < 0) || decide (281474976710656 < xnet) || decide (xtax < 0) || decide (281474976710656 < xtax)) = true from by simp [u1, u2])
            clear h1 h2
            go_wp2_with fail
            go_meet
            exact ⟨by rw [HV.out], rfl⟩
          · have u2 : decide (281474976710656 < xnet) = false := decide_eq_false h2
            by_cases h3 : xtax < 0
            · have u3 : decide (xtax < 0) = true := decide_eq_true h3
              have HV := hid (show (decide (xnet < 0) || decide (281474976710656 < xnet) || decide (xtax < 0) || decide (281474976710656 < xtax)) = true from by simp [u1, u2, u3])
              clear h1 h2 h3
              go_wp2_with fail
              go_meet
              exact ⟨by rw [HV.out], rfl⟩
            · have u3 : decide (xtax < 0) = false := decide_eq_false h3
              by_cases h4 : 281474976710656 < xtax
              · have u4 : decide (281474976710656 < xtax) = true := decide_eq_true h4
                have HV := hid (show (decide (xnet < 0) || decide (281474976710656 < xnet) || decide (xtax < 0) || decide (281474976710656 < xtax)) = true from by simp [u1, u2, u3, u4])
                clear h1 h2 h3 h4
                go_wp2_with fail
                go_meet
                exact ⟨by rw [HV.out], rfl⟩
              · have u4 : decide (281474976710656 < xtax) = false := decide_eq_false h4
                have HV := hid (show (decide (xnet < 0) || decide (281474976710656 < xnet) || decide (xtax < 0) || decide (281474976710656 < xtax)) = false from by simp [u1, u2, u3, u4])
                clear h1 h2 h3 h4
                go_wp2_with fail
                go_meet
                exact ⟨by rw [HV.out], rfl⟩
      case rest =>
        obtain ⟨rfl, hwx⟩ := hcut
        rw [hwx]
        clear hwx
        cases hB : (decide (xnet < 0) || decide (281474976710656 < xnet) || decide (xtax < 0) || decide (281474976710656 < xtax)) with
        | true =>
          have HNO := hid (show fitA (⟨xo, xc, xst, xlv, xnet, xtax, xap, xwr, xdep⟩ : Ca) = false from by
            cases hf : fitA (⟨xo, xc, xst, xlv, xnet, xtax, xap, xwr, xdep⟩ : Ca) with
            | false => rfl
            | true =>
              have h := (fitA_iff _).1 hf
              have k1 : 1 ≤ xo ∧ 1 ≤ xc ∧ xc ≤ 64 ∧ 0 ≤ xst ∧ xst ≤ 2 ∧ 0 ≤ xlv ∧ xlv ≤ 3 := ⟨h.o1, h.c1, h.c2, h.s0, h.s2, h.l0, h.l3⟩
              have k2 : 0 ≤ xnet ∧ xnet ≤ 281474976710656 ∧ 0 ≤ xtax ∧ xtax ≤ 281474976710656 := ⟨h.n0, h.n1, h.t0, h.t1⟩
              have k3 : 0 ≤ xap ∧ xap ≤ xnet + xtax ∧ 0 ≤ xwr ∧ xwr ≤ xnet + xtax - xap ∧ 0 ≤ xdep ∧ xdep ≤ 576460752303423488 := ⟨h.p0, h.p1, h.w0, h.w1, h.d0, h.d1⟩
              simp only [Bool.or_eq_true, decide_eq_true_eq] at hB
              omega)
          clear hB
          go_wp2_with fail
          go_ret
          exact ⟨by rw [HNO.out]; rfl, HG.out.2⟩
        | false =>
          have HB2 := hid hB
          have hnt : (0 ≤ xnet ∧ xnet ≤ 281474976710656) ∧ 0 ≤ xtax ∧ xtax ≤ 281474976710656 := by
            simp only [Bool.or_eq_false_iff, decide_eq_false_iff_not] at hB
            omega
          obtain ⟨⟨n1, n2⟩, t1, t2⟩ := hnt
          clear hB
          go_upto_region 6 with fail
          go_cut [93] (fun v wx => v = .bool (decide (xap < 0) || decide (xnet + xtax < xap) || decide (xwr < 0) || decide (xnet + xtax - xap < xwr) || decide (xdep < 0) || decide (576460752303423488 < xdep)) ∧ wx = wz)
          case first =>
            by_cases h1 : xap < 0
            · have u1 : decide (xap < 0) = true := decide_eq_true h1
              have HV := hid (show (decide (xap < 0) || decide (xnet + xtax < xap) || decide (xwr < 0) || decide (xnet + xtax - xap < xwr) || decide (xdep < 0) || decide (576460752303423488 < xdep)) = true from by simp [u1])
              go_wp2_with fail
              go_meet
              exact ⟨by rw [HV.out], rfl⟩
            · have u1 : decide (xap < 0) = false := decide_eq_false h1
              by_cases h2 : xnet + xtax < xap
              · have u2 : decide (xnet + xtax < xap) = true := decide_eq_true h2
                have HV := hid (show (decide (xap < 0) || decide (xnet + xtax < xap) || decide (xwr < 0) || decide (xnet + xtax - xap < xwr) || decide (xdep < 0) || decide (576460752303423488 < xdep)) = true from by simp [u1, u2])
                go_wp2_with fail
                go_meet
                exact ⟨by rw [HV.out], rfl⟩
              · have u2 : decide (xnet + xtax < xap) = false := decide_eq_false h2
                by_cases h3 : xwr < 0
                · have u3 : decide (xwr < 0) = true := decide_eq_true h3
                  have HV := hid (show (decide (xap < 0) || decide (xnet + xtax < xap) || decide (xwr < 0) || decide (xnet + xtax - xap < xwr) || decide (xdep < 0) || decide (576460752303423488 < xdep)) = true from by simp [u1, u2, u3])
                  go_wp2_with fail
                  go_meet
                  exact ⟨by rw [HV.out], rfl⟩
                · have u3 : decide (xwr < 0) = false := decide_eq_false h3
                  by_cases h4 : xnet + xtax - xap < xwr
                  · have u4 : decide (xnet + xtax - xap < xwr) = true := decide_eq_true h4
                    have HV := hid (show (decide (xap < 0) || decide (xnet + xtax < xap) || decide (xwr < 0) || decide (xnet + xtax - xap < xwr) || decide (xdep < 0) || decide (576460752303423488 < xdep)) = true from by simp [u1, u2, u3, u4])
                    go_wp2_with fail
                    go_meet
                    exact ⟨by rw [HV.out], rfl⟩
                  · have u4 : decide (xnet + xtax - xap < xwr) = false := decide_eq_false h4
                    by_cases h5 : xdep < 0
                    · have u5 : decide (xdep < 0) = true := decide_eq_true h5
                      have HV := hid (show (decide (xap < 0) || decide (xnet + xtax < xap) || decide (xwr < 0) || decide (xnet + xtax - xap < xwr) || decide (xdep < 0) || decide (576460752303423488 < xdep)) = true from by simp [u1, u2, u3, u4, u5])
                      go_wp2_with fail
                      go_meet
                      exact ⟨by rw [HV.out], rfl⟩
                    · have u5 : decide (xdep < 0) = false := decide_eq_false h5
                      by_cases h6 : 576460752303423488 < xdep
                      · have u6 : decide (576460752303423488 < xdep) = true := decide_eq_true h6
                        have HV := hid (show (decide (xap < 0) || decide (xnet + xtax < xap) || decide (xwr < 0) || decide (xnet + xtax - xap < xwr) || decide (xdep < 0) || decide (576460752303423488 < xdep)) = true from by simp [u1, u2, u3, u4, u5, u6])
                        go_wp2_with fail
                        go_meet
                        exact ⟨by rw [HV.out], rfl⟩
                      · have u6 : decide (576460752303423488 < xdep) = false := decide_eq_false h6
                        have HV := hid (show (decide (xap < 0) || decide (xnet + xtax < xap) || decide (xwr < 0) || decide (xnet + xtax - xap < xwr) || decide (xdep < 0) || decide (576460752303423488 < xdep)) = false from by simp [u1, u2, u3, u4, u5, u6])
                        go_wp2_with fail
                        go_meet
                        exact ⟨by rw [HV.out], rfl⟩
          case rest =>
            obtain ⟨rfl, hwx⟩ := hcut
            rw [hwx]
            clear hwx
            cases hB : (decide (xap < 0) || decide (xnet + xtax < xap) || decide (xwr < 0) || decide (xnet + xtax - xap < xwr) || decide (xdep < 0) || decide (576460752303423488 < xdep)) with
            | true =>
              have HNO := hid (show fitA (⟨xo, xc, xst, xlv, xnet, xtax, xap, xwr, xdep⟩ : Ca) = false from by
                cases hf : fitA (⟨xo, xc, xst, xlv, xnet, xtax, xap, xwr, xdep⟩ : Ca) with
                | false => rfl
                | true =>
                  have h := (fitA_iff _).1 hf
                  have k1 : 1 ≤ xo ∧ 1 ≤ xc ∧ xc ≤ 64 ∧ 0 ≤ xst ∧ xst ≤ 2 ∧ 0 ≤ xlv ∧ xlv ≤ 3 := ⟨h.o1, h.c1, h.c2, h.s0, h.s2, h.l0, h.l3⟩
                  have k2 : 0 ≤ xnet ∧ xnet ≤ 281474976710656 ∧ 0 ≤ xtax ∧ xtax ≤ 281474976710656 := ⟨h.n0, h.n1, h.t0, h.t1⟩
                  have k3 : 0 ≤ xap ∧ xap ≤ xnet + xtax ∧ 0 ≤ xwr ∧ xwr ≤ xnet + xtax - xap ∧ 0 ≤ xdep ∧ xdep ≤ 576460752303423488 := ⟨h.p0, h.p1, h.w0, h.w1, h.d0, h.d1⟩
                  simp only [Bool.or_eq_true, decide_eq_true_eq] at hB
                  omega)
              clear hB
              go_wp2_with fail
              go_ret
              exact ⟨by rw [HNO.out]; rfl, HG.out.2⟩
            | false =>
              have hF : fitA (⟨xo, xc, xst, xlv, xnet, xtax, xap, xwr, xdep⟩ : Ca) = if xst = 0 then decide (xnet + xtax = 0) else if xst = 2 then decide (xap + xwr = 0) else decide (openC (⟨xo, xc, xst, xlv, xnet, xtax, xap, xwr, xdep⟩ : Ca) = 0) || decide (xdep = 0) := by
                have hB1 := HB1.out
                have hB2 := HB2.out
                simp only [Bool.or_eq_false_iff, decide_eq_false_iff_not] at hB hB1 hB2
                unfold fitA
                simp only
                rw [if_neg (by rw [Bool.not_eq_false, cfitB_iff]; omega), if_neg (by omega), if_neg (by omega), if_neg (by rw [Bool.not_eq_false, btw_iff]; omega), if_neg (by rw [Bool.not_eq_false, btw_iff]; omega), if_neg (by rw [Bool.not_eq_false, btw_iff]; omega), if_neg (by rw [Bool.not_eq_false, btw_iff]; omega), if_neg (by rw [Bool.not_eq_false, btw_iff]; omega), if_neg (by rw [Bool.not_eq_false, btw_iff]; omega)]
              have hbs : 0 ≤ xap ∧ xap ≤ xnet + xtax ∧ 0 ≤ xwr ∧ xwr ≤ xnet + xtax - xap ∧ (0 ≤ xst ∧ xst ≤ 2) := by
                have hB1 := HB1.out
                simp only [Bool.or_eq_false_iff, decide_eq_false_iff_not] at hB hB1
                omega
              have HBS := hid hbs
              clear hB hbs
              by_cases h0 : xst = 0
              · rw [if_pos h0] at hF
                have u0 : (xst == 0) = true := by simp [h0]
                have HV := hid (show fitA (⟨xo, xc, xst, xlv, xnet, xtax, xap, xwr, xdep⟩ : Ca) = (xnet + xtax == 0) from by rw [hF]; rfl)
                clear hF h0
                go_wp2_with fail
                go_ret
                exact ⟨by rw [HV.out]; rfl, HG.out.2⟩
              · rw [if_neg h0] at hF
                have u0 : (xst == 0) = false := by simp [h0]
                by_cases h2 : xst = 2
                · rw [if_pos h2] at hF
                  have u2 : (xst == 2) = true := by simp [h2]
                  by_cases hp : xap = 0
                  · have u3 : (xap == 0) = true := by simp [hp]
                    have HV := hid (show fitA (⟨xo, xc, xst, xlv, xnet, xtax, xap, xwr, xdep⟩ : Ca) = (xwr == 0) from by rw [hF, hp, Int.zero_add]; rfl)
                    clear hF h0 h2 hp
                    go_wp2_with fail
                    go_ret
                    exact ⟨by rw [HV.out]; rfl, HG.out.2⟩
                  · have u3 : (xap == 0) = false := by simp [hp]
                    have HV := hid (show fitA (⟨xo, xc, xst, xlv, xnet, xtax, xap, xwr, xdep⟩ : Ca) = false from by rw [hF]; exact decide_eq_false (by have := HBS.out; omega))
                    clear hF h0 h2 hp
                    go_wp2_with fail
                    go_ret
                    exact ⟨by rw [HV.out]; rfl, HG.out.2⟩
                · rw [if_neg h2] at hF
                  have u2 : (xst == 2) = false := by simp [h2]
                  have hsm : SmallC (⟨xo, xc, xst, xlv, xnet, xtax, xap, xwr, xdep⟩ : Ca) := by have := HBS.out; exact ⟨⟨by simp only; omega, by simp only; omega⟩, ⟨by simp only; omega, by simp only; omega⟩, ⟨by simp only; omega, by simp only; omega⟩, ⟨by simp only; omega, by simp only; omega⟩⟩
                  have KO := hid (ropen_any (⟨xo, xc, xst, xlv, xnet, xtax, xap, xwr, xdep⟩ : Ca) wz hsm)
                  simp only [celC] at KO
                  obtain ⟨z, hz⟩ : ∃ z, z = openC (⟨xo, xc, xst, xlv, xnet, xtax, xap, xwr, xdep⟩ : Ca) := ⟨_, rfl⟩
                  rw [← hz] at KO hF
                  have HF := hid hF
                  clear hF h0 h2 hsm hz n1 n2 t1 t2
                  go_wp2_with fail
                  refine KO.out.mono ?_
                  rintro e w2 ⟨rfl, hb2⟩
                  have hG2 := HG.out.1.next hb2
                  have HB := hid (bthen HG.out.2 hb2)
                  clear KO hb2 HG lG g0 g1 g2 g3 g4 g5 g6 g7 g8
                  have g8 : w2.cell? ⟨G, 8, none⟩ = some (.int .i64 xdep) := hG2.cell 8
                  have lG := hG2.lt
                  clear hG2
                  by_cases hz0 : z = 0
                  · have tz : (z == 0) = true := by simp [hz0]
                    have HV := hid (show fitA (⟨xo, xc, xst, xlv, xnet, xtax, xap, xwr, xdep⟩ : Ca) = true from by rw [HF.out]; simp [hz0])
                    clear hz0
                    go_wp2_with fail
                    go_ret
                    exact ⟨by rw [HV.out]; rfl, HB.out⟩
                  · have tz : (z == 0) = false := by simp [hz0]
                    have HV := hid (show fitA (⟨xo, xc, xst, xlv, xnet, xtax, xap, xwr, xdep⟩ : Ca) = (xdep == 0) from by rw [HF.out]; simp [hz0]; rfl)
                    clear hz0
                    go_wp2_with fail
                    go_ret
                    exact ⟨by rw [HV.out]; rfl, HB.out⟩

/-- What the document's Restore leaves. -/
def RestRP (t : Int) (l : List Ca) (w : World) (e : Ending) (w' : World) : Prop :=
  Below w.heap.size w w' ∧ ((RestC t l ∧ ∃ (R : Nat) (A : Option Addr) (cap : Nat), e = .returned (.tuple #[.pointer (some ⟨R, 0, none⟩), .int .i64 0]) ∧ IsRf (R + 1) w' R A cap l t ∧ w.heap.size ≤ R ∧ R + 1 ≤ w'.heap.size) ∨ (¬ RestC t l ∧ e = .returned (.tuple #[.pointer none, .int .i64 2])))
set_option maxRecDepth 100000 in
set_option maxHeartbeats 64000000 in
theorem rrest_any (t : Int) (l : List Ca) (A0 : Option Addr) (cp : Nat) (w : World) (hR : Rd w A0 (l.flatMap enC9)) (hl : l.length * 72 + 72 ≤ 140737488355328) :
    Calls Tryz.prog 18 #[.int .i64 t, .slice A0 l.length cp] w (RestRP t l w) := by
  obtain ⟨i0, hi, hz0, hz1, hz2⟩ := info_parts info_rc
  by_cases ht0 : t < 0
  · have u0 : decide (t < 0) = true := decide_eq_true ht0
    have HNO := hid (show ¬ RestC t l from fun h => by have := h.t0; omega)
    clear ht0
    go_enter Tryz.func18, Tryz.ntmps18
    go_wp2_with fail
    go_ret2
    exact ⟨Below.refl _ _, .inr ⟨HNO.out, rfl⟩⟩
  have u0 : decide (t < 0) = false := decide_eq_false ht0
  by_cases ht1 : 1152921504606846976 < t
  · have u1 : decide (1152921504606846976 < t) = true := decide_eq_true ht1
    have HNO := hid (show ¬ RestC t l from fun h => by have := h.t1; omega)
    clear ht0 ht1
    go_enter Tryz.func18, Tryz.ntmps18
    go_wp2_with fail
    go_ret2
    exact ⟨Below.refl _ _, .inr ⟨HNO.out, rfl⟩⟩
  have u1 : decide (1152921504606846976 < t) = false := decide_eq_false ht1
  have HT := hid (show 0 ≤ t ∧ t ≤ 1152921504606846976 from by omega)
  clear ht0 ht1
  have hwb : Below w.heap.size w (w.alloc (.cells #[.slice none 0 0, .int .i64 t] 95)) := (Below.refl _ _).alloc (Nat.le_refl _) _
  have hIR : IsRf (w.heap.size + 1) (w.alloc (.cells #[.slice none 0 0, .int .i64 t] 95)) w.heap.size none 0 (l.take 0) t := ⟨Blk.new _ _ _, World.ownsRow_nil _ _ _ _, Nat.lt_succ_self _⟩
  have HI := hid (And.intro hIR hwb)
  clear hIR hwb
  go_enter Tryz.func18, Tryz.ntmps18
  go_wp2_with fail
  obtain ⟨R, hRe⟩ : ∃ R, R = w.heap.size := ⟨_, rfl⟩
  rw [← hRe]
  have HRE := hid hRe
  clear hRe
  go_loopw [7, 8] (fun lf i wr => ∃ (k : Nat) (left last : Int) (A : Option Addr) (cap : Nat), k ≤ l.length ∧ i = .int .i64 k ∧ lf = .int .i64 left ∧ Hid (RestT t l k left last) ∧ Hid (IsRf (R + 1) wr R A cap (l.take k) t ∧ Below w.heap.size w wr)) (fun _ i _ => l.length - nOf i)
  case atStart => exact ⟨0, t, 0, none, 0, Nat.zero_le _, rfl, rfl, hid (RestT.zero t l), hid (by rw [HRE.out]; exact HI.out)⟩
  case round =>
    clear HI
    obtain ⟨k, left, last, A, cap, hk, rfl, rfl, HP, HI⟩ := hrel
    by_cases hlt : k < l.length
    · obtain ⟨y, hy⟩ : ∃ y, l[k]? = some y := ⟨l[k], List.getElem?_eq_getElem hlt⟩
      obtain ⟨b, o, rfl, _, hcc⟩ := (hR.below HI.out.2).at_ 9 enC9_len (by omega) hy
      have HY := hid hy
      have HCC := hid (fun w' (hb : Below w.heap.size w w') (k : Nat) (y : Ca) (hy : l[k]? = some y) => (show ∀ j u, (enC9 y)[j]? = some u → w'.cell? ⟨b, o + k * 9 + j, none⟩ = some u from by
        obtain ⟨b2, o2, e, _, hc⟩ := (hR.below hb).at_ 9 enC9_len (by omega) hy
        simp only [Option.some.injEq, Addr.mk.injEq, and_true] at e
        obtain ⟨rfl, rfl⟩ := e
        exact hc))
      have KF := hid (fun w => rfitA_any y w)
      obtain ⟨yo, yc, yst, ylv, ynet, ytax, yap, ywr, ydep⟩ := y
      simp only [celC] at KF
      have q0 : wr.cell? ⟨b, o + k * 9, none⟩ = some (.int .i64 yo) := hcc 0 _ rfl
      have q1 : wr.cell? ⟨b, o + k * 9 + 1, none⟩ = some (.int .i64 yc) := hcc 1 _ rfl
      have q2 : wr.cell? ⟨b, o + k * 9 + 2, none⟩ = some (.int .i64 yst) := hcc 2 _ rfl
      have q3 : wr.cell? ⟨b, o + k * 9 + 3, none⟩ = some (.int .i64 ylv) := hcc 3 _ rfl
      have q4 : wr.cell? ⟨b, o + k * 9 + 4, none⟩ = some (.int .i64 ynet) := hcc 4 _ rfl
      have q5 : wr.cell? ⟨b, o + k * 9 + 5, none⟩ = some (.int .i64 ytax) := hcc 5 _ rfl
      have q6 : wr.cell? ⟨b, o + k * 9 + 6, none⟩ = some (.int .i64 yap) := hcc 6 _ rfl
      have q7 : wr.cell? ⟨b, o + k * 9 + 7, none⟩ = some (.int .i64 ywr) := hcc 7 _ rfl
      have q8 : wr.cell? ⟨b, o + k * 9 + 8, none⟩ = some (.int .i64 ydep) := hcc 8 _ rfl
      clear hcc hy
      go_wp2_with fail
      refine (KF.out _).mono ?_
      rintro e w2 ⟨rfl, hb2⟩
      have HI2 := hid (And.intro (HI.out.1.next hb2) (bthen HI.out.2 hb2))
      clear KF hb2 HI q0 q1 q2 q3 q4 q5 q6 q7 q8
      have q0 : w2.cell? ⟨b, o + k * 9, none⟩ = some (.int .i64 yo) := HCC.out _ HI2.out.2 k _ HY.out 0 _ rfl
      have q1 : w2.cell? ⟨b, o + k * 9 + 1, none⟩ = some (.int .i64 yc) := HCC.out _ HI2.out.2 k _ HY.out 1 _ rfl
      have q2 : w2.cell? ⟨b, o + k * 9 + 2, none⟩ = some (.int .i64 yst) := HCC.out _ HI2.out.2 k _ HY.out 2 _ rfl
      have q3 : w2.cell? ⟨b, o + k * 9 + 3, none⟩ = some (.int .i64 ylv) := HCC.out _ HI2.out.2 k _ HY.out 3 _ rfl
      have q4 : w2.cell? ⟨b, o + k * 9 + 4, none⟩ = some (.int .i64 ynet) := HCC.out _ HI2.out.2 k _ HY.out 4 _ rfl
      have q5 : w2.cell? ⟨b, o + k * 9 + 5, none⟩ = some (.int .i64 ytax) := HCC.out _ HI2.out.2 k _ HY.out 5 _ rfl
      have q6 : w2.cell? ⟨b, o + k * 9 + 6, none⟩ = some (.int .i64 yap) := HCC.out _ HI2.out.2 k _ HY.out 6 _ rfl
      have q7 : w2.cell? ⟨b, o + k * 9 + 7, none⟩ = some (.int .i64 ywr) := HCC.out _ HI2.out.2 k _ HY.out 7 _ rfl
      have q8 : w2.cell? ⟨b, o + k * 9 + 8, none⟩ = some (.int .i64 ydep) := HCC.out _ HI2.out.2 k _ HY.out 8 _ rfl
      go_upto_region 9 with fail
      obtain ⟨fb, hfb⟩ : ∃ fb, fb = fitA (⟨yo, yc, yst, ylv, ynet, ytax, yap, ywr, ydep⟩ : Ca) := ⟨_, rfl⟩
      rw [← hfb]
      have HFB := hid hfb
      clear hfb
      go_cut [50] (fun v wx => v = .bool (!(fb && decide (last < yo))) ∧ Below w2.heap.size w2 wx)
      case first =>
        cases fb with
        | false =>
          clear HFB
          go_quiet (fail)
          go_wp2_with fail
          go_meet
          exact ⟨rfl, below_drewN (Below.refl _ _) nq⟩
        | true =>
          have hfit := (fitA_iff _).1 HFB.out.symm
          have ho1 : 1 ≤ yo := hfit.o1
          clear HFB hfit
          by_cases hk0 : k = 0
          · subst hk0
            have HV := hid (show decide (last < yo) = true from decide_eq_true (by rw [HP.out.lst0 rfl]; omega))
            have tk : decide ((0 : Int) < ((0 : Nat) : Int)) = false := by simp
            clear ho1
            go_quiet (fail)
            go_wp2_with fail
            go_meet
            exact ⟨by rw [HV.out]; rfl, below_drewN (Below.refl _ _) nq⟩
          · obtain ⟨k', rfl⟩ : ∃ k', k = k' + 1 := ⟨k - 1, by omega⟩
            obtain ⟨z, hz, hlz⟩ := HP.out.lstk (by omega)
            have hz' : l[k']? = some z := hz
            have r0 : w2.cell? ⟨b, o + k' * 9, none⟩ = some (.int .i64 z.o) := HCC.out _ HI2.out.2 k' z hz' 0 _ rfl
            have hk2 : k' < l.length := by omega
            clear hz hz' hk0 ho1
            generalize z.o = zo at r0 hlz
            by_cases hle : yo ≤ zo
            · have tl : decide (yo ≤ zo) = true := decide_eq_true hle
              have HV := hid (show decide (last < yo) = false from decide_eq_false (by omega))
              clear hle hlz
              go_quiet (fail)
              go_wp2_with fail
              go_meet
              exact ⟨by rw [HV.out]; rfl, below_drewN (Below.refl _ _) nq⟩
            · have tl : decide (yo ≤ zo) = false := decide_eq_false hle
              have HV := hid (show decide (last < yo) = true from decide_eq_true (by omega))
              clear hle hlz
              go_quiet (fail)
              go_wp2_with fail
              go_meet
              exact ⟨by rw [HV.out]; rfl, below_drewN (Below.refl _ _) nq⟩
      case rest =>
        obtain ⟨rfl, hwx⟩ := hcut
        obtain ⟨wv, hwv⟩ : ∃ wv, wv = wc := ⟨_, rfl⟩
        rw [← hwv] at hwx ⊢
        clear hwv
        have HI3 := hid (And.intro (HI2.out.1.next hwx) (bthen HI2.out.2 hwx))
        clear hwx HI2 q0 q1 q2 q3 q4 q5 q6 q7 q8
        cases hok : (fb && decide (last < yo)) with
        | false =>
          have HNO := hid (HP.out.bad HY.out (by rw [← HFB.out, hok]; rfl))
          clear hok HP
          go_wp2_with fail
          go_ret2
          exact ⟨HI3.out.2, .inr ⟨HNO.out, rfl⟩⟩
        | true =>
          obtain ⟨ho1, ho2⟩ := (Bool.and_eq_true _ _).mp hok
          rw [HFB.out] at ho1
          have hfit := (fitA_iff _).1 ho1
          have hol := of_decide_eq_true ho2
          clear hok ho1 ho2
          have hw0 := wtR_nonneg HP.out.fit
          have hrem := HP.out.rem
          have hlb : 0 ≤ left ∧ left ≤ 1152921504606846976 := by
            have ht := HT.out
            by_cases h0 : k = 0
            · have := hrem; subst h0; simp [wtR] at this; omega
            · have := HP.out.ge (by omega); omega
          have HFIT := hid (And.intro hfit hol)
          have hd0 : 0 ≤ ydep ∧ ydep ≤ 576460752303423488 := ⟨hfit.d0, hfit.d1⟩
          have hn0 : 0 ≤ ynet ∧ ynet ≤ 281474976710656 := ⟨hfit.n0, hfit.n1⟩
          have ht0 : 0 ≤ ytax ∧ ytax ≤ 281474976710656 := ⟨hfit.t0, hfit.t1⟩
          have hp0 : 0 ≤ yap ∧ yap ≤ ynet + ytax := ⟨hfit.p0, hfit.p1⟩
          have hr0 : 0 ≤ ywr ∧ ywr ≤ ynet + ytax - yap := ⟨hfit.w0, hfit.w1⟩
          obtain ⟨wa, hwa⟩ : ∃ wa, wa = wt (⟨yo, yc, yst, ylv, ynet, ytax, yap, ywr, ydep⟩ : Ca) := ⟨_, rfl⟩
          have HWA := hid hwa
          have q0 : wv.cell? ⟨b, o + k * 9, none⟩ = some (.int .i64 yo) := HCC.out _ HI3.out.2 k _ HY.out 0 _ rfl
          have q1 : wv.cell? ⟨b, o + k * 9 + 1, none⟩ = some (.int .i64 yc) := HCC.out _ HI3.out.2 k _ HY.out 1 _ rfl
          have q2 : wv.cell? ⟨b, o + k * 9 + 2, none⟩ = some (.int .i64 yst) := HCC.out _ HI3.out.2 k _ HY.out 2 _ rfl
          have q3 : wv.cell? ⟨b, o + k * 9 + 3, none⟩ = some (.int .i64 ylv) := HCC.out _ HI3.out.2 k _ HY.out 3 _ rfl
          have q4 : wv.cell? ⟨b, o + k * 9 + 4, none⟩ = some (.int .i64 ynet) := HCC.out _ HI3.out.2 k _ HY.out 4 _ rfl
          have q5 : wv.cell? ⟨b, o + k * 9 + 5, none⟩ = some (.int .i64 ytax) := HCC.out _ HI3.out.2 k _ HY.out 5 _ rfl
          have q6 : wv.cell? ⟨b, o + k * 9 + 6, none⟩ = some (.int .i64 yap) := HCC.out _ HI3.out.2 k _ HY.out 6 _ rfl
          have q7 : wv.cell? ⟨b, o + k * 9 + 7, none⟩ = some (.int .i64 ywr) := HCC.out _ HI3.out.2 k _ HY.out 7 _ rfl
          have q8 : wv.cell? ⟨b, o + k * 9 + 8, none⟩ = some (.int .i64 ydep) := HCC.out _ HI3.out.2 k _ HY.out 8 _ rfl
          clear hwa hw0 hrem hfit hol
          obtain ⟨hlb1, hlb2⟩ := hlb
          obtain ⟨hd1, hd2⟩ := hd0
          go_upto_if 63 with fail
          go_cut [7] (fun v wx => v = .int .i64 (left - wa) ∧ Below wv.heap.size wv wx)
          case first =>
            obtain ⟨hn1, hn2⟩ := hn0
            obtain ⟨ht1, ht2⟩ := ht0
            obtain ⟨hp1, hp2⟩ := hp0
            obtain ⟨hr1, hr2⟩ := hr0
            by_cases hs : yst = 1
            · have ts : (yst == 1) = true := by simp [hs]
              have HV := hid (show left - wa = left - ydep - ynet - ytax - yap - ywr from by rw [HWA.out, wt_eq]; simp only [hs, if_true]; omega)
              have HKL := hid hlt
              clear HP HY HFIT HCC
              rw [ts]
              clear hs ts
              go_wp2_with fail
              go_quiet (fail)
              go_wp2_with fail
              go_meet
              exact ⟨by rw [HV.out], below_drewN (Below.refl _ _) nq⟩
            · have ts : (yst == 1) = false := by simp [hs]
              have HV := hid (show left - wa = left - ydep from by rw [HWA.out, wt_eq]; simp only [hs, if_false]; omega)
              clear HP HY HFIT HCC
              rw [ts]
              clear hs ts
              go_wp2_with fail
              go_meet
              exact ⟨by rw [HV.out], Below.refl _ _⟩
          case rest =>
            obtain ⟨rfl, hwx⟩ := hcut
            obtain ⟨wu, hwu⟩ : ∃ wu, wu = wc := ⟨_, rfl⟩
            rw [← hwu] at hwx ⊢
            clear hwu
            have HI4 := hid (And.intro (HI3.out.1.next hwx) (bthen HI3.out.2 hwx))
            clear hwx HI3 q0 q1 q2 q3 q4 q5 q6 q7 q8 hlb1 hlb2 hd1 hd2 hn0 ht0 hp0 hr0
            obtain ⟨lf, hlf⟩ : ∃ lf, lf = left - wa := ⟨_, rfl⟩
            rw [← hlf]
            have HLF := hid hlf
            clear hlf
            by_cases hng : lf < 0
            · have tn : decide (lf < 0) = true := decide_eq_true hng
              have HNO := hid (HP.out.poor HY.out (by rw [← HWA.out, ← HLF.out]; exact hng))
              clear hng HP HY HFIT
              go_wp2_with fail
              go_ret2
              exact ⟨HI4.out.2, .inr ⟨HNO.out, rfl⟩⟩
            · have tn : decide (lf < 0) = false := decide_eq_false hng
              have HT1 := hid (HP.out.next HY.out HFIT.out.1 HFIT.out.2 HT.out (by rw [← HWA.out, ← HLF.out]; omega))
              rw [← HWA.out, ← HLF.out] at HT1
              clear hng HWA HLF HP HFIT
              have hlk : (l.take k).length = k := by rw [List.length_take]; omega
              have c0 : wu.cell? ⟨R, 0, none⟩ = some (.slice A k cap) := by have := HI4.out.1.blk.cell 0; rw [hlk] at this; exact this
              have q0 : wu.cell? ⟨b, o + k * 9, none⟩ = some (.int .i64 yo) := HCC.out _ HI4.out.2 k _ HY.out 0 _ rfl
              have q1 : wu.cell? ⟨b, o + k * 9 + 1, none⟩ = some (.int .i64 yc) := HCC.out _ HI4.out.2 k _ HY.out 1 _ rfl
              have q2 : wu.cell? ⟨b, o + k * 9 + 2, none⟩ = some (.int .i64 yst) := HCC.out _ HI4.out.2 k _ HY.out 2 _ rfl
              have q3 : wu.cell? ⟨b, o + k * 9 + 3, none⟩ = some (.int .i64 ylv) := HCC.out _ HI4.out.2 k _ HY.out 3 _ rfl
              have q4 : wu.cell? ⟨b, o + k * 9 + 4, none⟩ = some (.int .i64 ynet) := HCC.out _ HI4.out.2 k _ HY.out 4 _ rfl
              have q5 : wu.cell? ⟨b, o + k * 9 + 5, none⟩ = some (.int .i64 ytax) := HCC.out _ HI4.out.2 k _ HY.out 5 _ rfl
              have q6 : wu.cell? ⟨b, o + k * 9 + 6, none⟩ = some (.int .i64 yap) := HCC.out _ HI4.out.2 k _ HY.out 6 _ rfl
              have q7 : wu.cell? ⟨b, o + k * 9 + 7, none⟩ = some (.int .i64 ywr) := HCC.out _ HI4.out.2 k _ HY.out 7 _ rfl
              have q8 : wu.cell? ⟨b, o + k * 9 + 8, none⟩ = some (.int .i64 ydep) := HCC.out _ HI4.out.2 k _ HY.out 8 _ rfl
              have lR := HI4.out.1.blk.lt
              have hRu : R + 1 ≤ wu.heap.size := lR
              have hO := (HI4.out.1.next (below_drewN (Below.refl _ _) 1 : Below wu.heap.size wu wu.drew)).own.alloc (.cells #[.int .i64 yo, .int .i64 yc, .int .i64 yst, .int .i64 ylv, .int .i64 ynet, .int .i64 ytax, .int .i64 yap, .int .i64 ywr, .int .i64 ydep] 47)
              have hRk := (HI4.out.1.next (below_drewN (Below.refl _ _) 1 : Below wu.heap.size wu wu.drew)).blk.alloc (.cells #[.int .i64 yo, .int .i64 yc, .int .i64 yst, .int .i64 ylv, .int .i64 ynet, .int .i64 ytax, .int .i64 yap, .int .i64 ywr, .int .i64 ydep] 47)
              rw [hlk] at hO hRk
              have HL2 := hid (show some R ≠ (Value.slice A k cap).ownBlock from fun e => by have := HI4.out.1.own; rw [hlk] at this; have := (this.lt R e.symm).1; omega)
              have HO := hid hO
              have HTK := hid (takeE_snoc HY.out)
              have HLK := hid hlk
              clear hO hlk HCC
              go_wp2_with fail
              go_region_law ((refine step_append_lies _ (by rfl) _ _ _ (by rfl) (R + 1) 47 i0 _ 9 72 Tryz.underlying45 hi hz0 hz1 hz2 rfl (by decide) _ _ _ (by rfl) HO.out ⟨wu.heap.size, 0, none⟩ 1 1 [.int .i64 yo, .int .i64 yc, .int .i64 yst, .int .i64 ylv, .int .i64 ynet, .int .i64 ytax, .int .i64 yap, .int .i64 ywr, .int .i64 ydep] (by rfl) (by rfl) (World.news_of_block (heap_alloc_new _ _)) (enC9_one (⟨yo, yc, yst, ylv, ynet, ytax, yap, ywr, ydep⟩ : Ca)) (by omega) (by unfold maxLen; omega) (by omega) (by simp; omega) _ rfl ?_; intro g7 cap7 w7 hO7 hg7 hat7 hlt7; have hB7 := hRk.grown hg7 HL2.out; have c7 : w7.cell? ⟨R, 0, none⟩ = some (.slice A k cap) := hB7.cell 0; have f7 := hB7.free 0))
              all_goals
                have hb7 : Below w.heap.size w w7 := (HI4.out.2.trans ((below_drewN (Below.refl _ _) 1 : Below w.heap.size wu wu.drew).alloc (by simp; exact HI4.out.2.size) (.cells #[.int .i64 yo, .int .i64 yc, .int .i64 yst, .int .i64 ylv, .int .i64 ynet, .int .i64 ytax, .int .i64 yap, .int .i64 ywr, .int .i64 ydep] 47))).grown hg7 (by simp; have := HI4.out.2.size; omega) (fun kk hkk => by have := (HO.out.lt kk hkk).1; have := HRE.out; omega)
                have hT7 : Touch (· = R) w7 (w7.setCell ⟨R, 0, none⟩ (.slice (some ⟨g7, 0, none⟩) (k + 1) cap7)) := Touch.setCell _ _ _ _
                have hgR : g7 ≠ R := by
                  have := (hO7.lt g7 rfl).1
                  omega
                have hIN : IsRf (R + 1) (w7.setCell ⟨R, 0, none⟩ (.slice (some ⟨g7, 0, none⟩) (k + 1) cap7)) R (some ⟨g7, 0, none⟩) cap7 (l.take (k + 1)) t := by
                  have e2 : (l.take (k + 1)).length = k + 1 := by rw [List.length_take]; omega
                  refine ⟨by rw [e2]; exact hB7.set_ 0 _, ?_, Nat.lt_succ_self _⟩
                  rw [e2]
                  have e3 : (l.take (k + 1)).flatMap enC9 = (l.take k).flatMap enC9 ++ [.int .i64 yo, .int .i64 yc, .int .i64 yst, .int .i64 ylv, .int .i64 ynet, .int .i64 ytax, .int .i64 yap, .int .i64 ywr, .int .i64 ydep] := by rw [HTK.out]; simp [enC9, celC]
                  rw [e3]
                  exact own_touch hO7 hT7 (fun gg hgg e => by simp [Value.ownBlock] at hgg; omega)
                have HF := hid (And.intro hIN (hb7.trans (hT7.below hb7.size (fun kk hkk => by rw [hkk, HRE.out]; exact Nat.le_refl _))))
                clear hO7 hg7 hat7 hlt7 hB7 c7 f7 hb7 hT7 hgR hIN c0 lR hRu hRk HL2 HO q0 q1 q2 q3 q4 q5 q6 q7 q8 HI4 HTK HLK
                go_wp2_with fail
                go_roundw
                case rel => exact ⟨k + 1, lf, yo, _, cap7, by omega, by go_num, rfl, HT1, HF⟩
                case measure => simp [nOf]; omega
    · have hk' : k = l.length := by omega
      subst hk'
      clear hk hlt
      have HRC := hid (HP.out.done (Nat.le_refl _) HT.out)
      have hI := HI.out
      rw [List.take_length] at hI
      have HF := hid hI
      clear hI HI HP
      go_wp2_with fail
      go_ret2
      exact ⟨HF.out.2, .inl ⟨HRC.out, R, A, cap, rfl, HF.out.1, by rw [HRE.out]; exact Nat.le_refl _, HF.out.1.blk.lt⟩⟩

end Go.Proofs.YthdmbbfppgenlaaGreat
